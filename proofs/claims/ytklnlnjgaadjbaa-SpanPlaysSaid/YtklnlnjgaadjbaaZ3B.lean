/- The printed readings of some functions: each function's code reckoned by the kernel to its predicate transformer · The printed readings of some functions: each function's code reckoned by the kernel to its predicate transformer · The printed readings of some functions: each function's code reckoned by the kernel to its predicate transformer -/
import Derived.Test.YtklnlnjgaadjbaaZ3A
set_option linter.unusedSimpArgs false
set_option linter.unusedVariables false
namespace Go.Proofs.Ytklnlnjgaadjbaa.Rd
open Go.Dn
set_option maxRecDepth 100000
namespace f_span_reach_Plus
noncomputable def body : Code := (Try.f97.body).getD .skip
def l2 : Nat → Addr → Addr → Int → Option Addr → Nat → Nat → Int → Int → World → (World → Prop) → Prop | 0, _, _, _, _, _, _, _, _, _, _ => False | k + 1, at2, at5, xt7, At42, nt42, ct42, xt43, xt44, w, K3 => sel (decide (xt44 < xt43)) (optB At42 fun a63 => req (decide (0 ≤ xt44 ∧ xt44 < (nt42 : Int))) <| ldI w (a63.add (xt44.toNat * 1)) .i64 fun x64 => ldP w at2 fun p65 => Calls Try.prog 98 #[.pointer p65, .int .i64 xt7, .int .i64 x64] w fun e66 w67 => ∃ x68, e66 = .returned (.int .i64 x68) ∧ (ldI w67 (at5.add 3) .i64 fun x69 => sel (decide (x68 > x69)) (ldP w67 at2 fun p70 => stW w67 at5 (.pointer p70) fun w71 => stW w71 (at5.add 1) (.int .i64 xt7) fun w72 => stW w72 (at5.add 2) (.int .i64 x64) fun w73 => stW w73 (at5.add 3) (.int .i64 x68) fun w74 => l2 k at2 at5 xt7 At42 nt42 ct42 xt43 (IntKind.i64.wrap (xt44 + 1)) w74 K3) (l2 k at2 at5 xt7 At42 nt42 ct42 xt43 (IntKind.i64.wrap (xt44 + 1)) w67 K3))) (K3 w)
def l1 : Nat → Addr → Addr → Addr → Option Addr → Nat → Nat → Int → Int → World → (World → Prop) → Prop | 0, _, _, _, _, _, _, _, _, _, _ => False | k + 1, at2, at3, at5, At32, nt32, ct32, xt33, xt34, w, K1 => sel (decide (xt34 < xt33)) (optB At32 fun a57 => req (decide (0 ≤ xt34 ∧ xt34 < (nt32 : Int))) <| ldI w (a57.add (xt34.toNat * 1)) .i64 fun x58 => ldI w (at3.add 1) .i64 fun x59 => ldI w (at3.add 2) .i64 fun x60 => alW w (.cells #[.int .i64 x59, .int .i64 x60] 3) fun B61 w62 => ∃ k76, l2 k76 at2 at5 x58 (some ⟨B61, 0, none⟩) 2 2 ((2 : Nat) : Int) 0 w62 (fun w75 => ∀ _ : Fr, l1 k at2 at3 at5 At32 nt32 ct32 xt33 (IntKind.i64.wrap (xt34 + 1)) w75 K1)) (K1 w)
def j0 (at2 at3 at4 at5 : Addr) (w : World) (Kr : World → Prop) : Prop := ldI w (at2.add 1) .i64 fun x53 => ldI w (at2.add 2) .i64 fun x54 => alW w (.cells #[.int .i64 x53, .int .i64 x54] 3) fun B55 w56 => ∃ k86, l1 k86 at2 at3 at5 (some ⟨B55, 0, none⟩) 2 2 ((2 : Nat) : Int) 0 w56 (fun w77 => ∀ _ : Fr, ldP w77 at5 fun p78 => ldI w77 (at5.add 1) .i64 fun x79 => ldI w77 (at5.add 2) .i64 fun x80 => ldI w77 (at5.add 3) .i64 fun x81 => stW w77 at4 (.pointer p78) fun w82 => stW w82 (at4.add 1) (.int .i64 x79) fun w83 => stW w83 (at4.add 2) (.int .i64 x80) fun w84 => stW w84 (at4.add 3) (.int .i64 x81) fun w85 => Kr w85)
def wp (pa0_0 : Option Addr) (xa0_1 xa0_2 xa0_3 : Int) (pa1_0 : Option Addr) (xa1_1 xa1_2 xa1_3 : Int) (w : World) (Q : Ending → World → Prop) : Prop := alW w (.cells #[.pointer pa0_0, .int .i64 xa0_1, .int .i64 xa0_2, .int .i64 xa0_3] 60) fun B1 w2 => alW w2 (.cells #[.pointer pa1_0, .int .i64 xa1_1, .int .i64 xa1_2, .int .i64 xa1_3] 60) fun B3 w4 => alW w4 (.cells #[.pointer none, .int .i64 0, .int .i64 0, .int .i64 0] 60) fun B5 w6 => ldI w6 (.add ⟨B1, 0, none⟩ 1) .i64 fun x7 => sel (x7 == 0) (ldP w6 ⟨B3, 0, none⟩ fun p8 => ldI w6 (.add ⟨B3, 0, none⟩ 1) .i64 fun x9 => ldI w6 (.add ⟨B3, 0, none⟩ 2) .i64 fun x10 => ldI w6 (.add ⟨B3, 0, none⟩ 3) .i64 fun x11 => stW w6 ⟨B5, 0, none⟩ (.pointer p8) fun w12 => stW w12 (.add ⟨B5, 0, none⟩ 1) (.int .i64 x9) fun w13 => stW w13 (.add ⟨B5, 0, none⟩ 2) (.int .i64 x10) fun w14 => stW w14 (.add ⟨B5, 0, none⟩ 3) (.int .i64 x11) fun w15 => ldP w15 ⟨B5, 0, none⟩ fun p16 => ldI w15 (.add ⟨B5, 0, none⟩ 1) .i64 fun x17 => ldI w15 (.add ⟨B5, 0, none⟩ 2) .i64 fun x18 => ldI w15 (.add ⟨B5, 0, none⟩ 3) .i64 fun x19 => Q (.returned (.agg #[.pointer p16, .int .i64 x17, .int .i64 x18, .int .i64 x19])) w15) (ldI w6 (.add ⟨B3, 0, none⟩ 1) .i64 fun x20 => sel (x20 == 0) (ldP w6 ⟨B1, 0, none⟩ fun p21 => ldI w6 (.add ⟨B1, 0, none⟩ 1) .i64 fun x22 => ldI w6 (.add ⟨B1, 0, none⟩ 2) .i64 fun x23 => ldI w6 (.add ⟨B1, 0, none⟩ 3) .i64 fun x24 => stW w6 ⟨B5, 0, none⟩ (.pointer p21) fun w25 => stW w25 (.add ⟨B5, 0, none⟩ 1) (.int .i64 x22) fun w26 => stW w26 (.add ⟨B5, 0, none⟩ 2) (.int .i64 x23) fun w27 => stW w27 (.add ⟨B5, 0, none⟩ 3) (.int .i64 x24) fun w28 => ldP w28 ⟨B5, 0, none⟩ fun p29 => ldI w28 (.add ⟨B5, 0, none⟩ 1) .i64 fun x30 => ldI w28 (.add ⟨B5, 0, none⟩ 2) .i64 fun x31 => ldI w28 (.add ⟨B5, 0, none⟩ 3) .i64 fun x32 => Q (.returned (.agg #[.pointer p29, .int .i64 x30, .int .i64 x31, .int .i64 x32])) w28) (ldP w6 ⟨B1, 0, none⟩ fun p33 => ldI w6 (.add ⟨B1, 0, none⟩ 1) .i64 fun x34 => ldI w6 (.add ⟨B1, 0, none⟩ 2) .i64 fun x35 => ldI w6 (.add ⟨B1, 0, none⟩ 3) .i64 fun x36 => alW w6 (.cells #[.pointer none, .int .i64 0, .int .i64 0, .int .i64 0] 60) fun B37 w38 => stW w38 ⟨B37, 0, none⟩ (.pointer p33) fun w39 => stW w39 (.add ⟨B37, 0, none⟩ 1) (.int .i64 x34) fun w40 => stW w40 (.add ⟨B37, 0, none⟩ 2) (.int .i64 x35) fun w41 => stW w41 (.add ⟨B37, 0, none⟩ 3) (.int .i64 x36) fun w42 => ldI w42 (.add ⟨B3, 0, none⟩ 3) .i64 fun x43 => ldI w42 (.add ⟨B37, 0, none⟩ 3) .i64 fun x44 => sel (decide (x43 > x44)) (ldP w42 ⟨B3, 0, none⟩ fun p45 => ldI w42 (.add ⟨B3, 0, none⟩ 1) .i64 fun x46 => ldI w42 (.add ⟨B3, 0, none⟩ 2) .i64 fun x47 => ldI w42 (.add ⟨B3, 0, none⟩ 3) .i64 fun x48 => stW w42 ⟨B37, 0, none⟩ (.pointer p45) fun w49 => stW w49 (.add ⟨B37, 0, none⟩ 1) (.int .i64 x46) fun w50 => stW w50 (.add ⟨B37, 0, none⟩ 2) (.int .i64 x47) fun w51 => stW w51 (.add ⟨B37, 0, none⟩ 3) (.int .i64 x48) fun w52 => j0 ⟨B1, 0, none⟩ ⟨B3, 0, none⟩ ⟨B5, 0, none⟩ ⟨B37, 0, none⟩ w52 (fun w87 => ∀ _ : Fr, ldP w87 ⟨B5, 0, none⟩ fun p88 => ldI w87 (.add ⟨B5, 0, none⟩ 1) .i64 fun x89 => ldI w87 (.add ⟨B5, 0, none⟩ 2) .i64 fun x90 => ldI w87 (.add ⟨B5, 0, none⟩ 3) .i64 fun x91 => Q (.returned (.agg #[.pointer p88, .int .i64 x89, .int .i64 x90, .int .i64 x91])) w87)) (j0 ⟨B1, 0, none⟩ ⟨B3, 0, none⟩ ⟨B5, 0, none⟩ ⟨B37, 0, none⟩ w42 (fun w92 => ∀ _ : Fr, ldP w92 ⟨B5, 0, none⟩ fun p93 => ldI w92 (.add ⟨B5, 0, none⟩ 1) .i64 fun x94 => ldI w92 (.add ⟨B5, 0, none⟩ 2) .i64 fun x95 => ldI w92 (.add ⟨B5, 0, none⟩ 3) .i64 fun x96 => Q (.returned (.agg #[.pointer p93, .int .i64 x94, .int .i64 x95, .int .i64 x96])) w92))))
def D : Nat → Option DH := dtab []
def l2LO : LO := ⟨[], [], [(3, [2, 3, 4, 5, 32, 33, 34])], []⟩
def l2Tk (k : Nat) : Spec := fun Q σ w => gAd (σ 2) fun at2 => gAd (σ 5) fun at5 => gInt .i64 (σ 7) fun xt7 => gSlice (σ 42) fun At42 nt42 ct42 => gInt .i64 (σ 43) fun xt43 => gInt .i64 (σ 44) fun xt44 => l2 k at2 at5 xt7 At42 nt42 ct42 xt43 xt44 w (fun w => ∀ d : Fr, Q (.exit 3) (ov d [(2, .pointer (some at2)), (3, σ 3), (4, σ 4), (5, .pointer (some at5)), (32, σ 32), (33, σ 33), (34, σ 34)]) w)
def l2T : Spec := fun Q σ w => ∃ k, l2Tk k Q σ w
def l2tb : List (List Nat × Spec) := []
noncomputable def l2b : Code := (subC [0, 0, 1, 1, 0, 0, 1, 1, 0, 0, 1, 0, 1, 1, 1, 1] body).getD .skip
theorem l2_eq (k : Nat) (at2 at5 : Addr) (xt7 : Int) (At42 : Option Addr) (nt42 ct42 : Nat) (xt43 xt44 : Int) (Q : PQ) (σ : Fr) (w : World) : l2 (k + 1) at2 at5 xt7 At42 nt42 ct42 xt43 xt44 w (fun w => ∀ d : Fr, Q (.exit 3) (ov d [(2, .pointer (some at2)), (3, σ 3), (4, σ 4), (5, .pointer (some at5)), (32, σ 32), (33, σ 33), (34, σ 34)]) w) = codeW Try.prog hT 66 D (tab l2tb) [0, 0, 1, 1, 0, 0, 1, 1, 0, 0, 1, 0, 1, 1, 1, 1] l2b (thenQ (l2Tk k Q) (widen l2LO Q)) (ov σ [(2, .pointer (some at2)), (5, .pointer (some at5)), (7, .int .i64 xt7), (42, .slice At42 nt42 ct42), (43, .int .i64 xt43), (44, .int .i64 xt44)]) w := by kernel_rfl
theorem l2_snd : ∀ c, subC [0, 1, 1, 0, 0, 1, 1, 0, 0, 1, 0, 1, 1, 1, 1] body = some c → Snd Try.prog 66 c l2T := by
 refine loop_of (hT := hT) (D := D) (l := l2tb) (b := l2b) (lo := l2LO) (by kernel_rfl) (by
  intro x hx
  simp only [l2tb, List.not_mem_nil] at hx
  ) (by kernel_rfl) (by kernel_rfl) ?_ ?_
 ·intro Q σ w h
  unfold l2Tk at h
  obtain ⟨_, _, h⟩ := gAd_elim h
  obtain ⟨_, _, h⟩ := gAd_elim h
  obtain ⟨_, _, h⟩ := gInt_elim h
  obtain ⟨_, _, _, _, h⟩ := gSlice_elim h
  obtain ⟨_, _, h⟩ := gInt_elim h
  obtain ⟨_, _, h⟩ := gInt_elim h
  exact h
 ·intro k Q σ w h
  unfold l2Tk at h
  obtain ⟨at2, h2, h⟩ := gAd_elim h
  obtain ⟨at5, h5, h⟩ := gAd_elim h
  obtain ⟨xt7, h7, h⟩ := gInt_elim h
  obtain ⟨At42, nt42, ct42, h42, h⟩ := gSlice_elim h
  obtain ⟨xt43, h43, h⟩ := gInt_elim h
  obtain ⟨xt44, h44, h⟩ := gInt_elim h
  rw [l2_eq (σ := σ)] at h
  have e : (ov σ [(2, .pointer (some at2)), (5, .pointer (some at5)), (7, .int .i64 xt7), (42, .slice At42 nt42 ct42), (43, .int .i64 xt43), (44, .int .i64 xt44)]) = σ := ov_self (by simp [h2, h5, h7, h42, h43, h44])
  rw [e] at h
  exact h
def l1LO : LO := ⟨[], [], [(1, [4, 5])], []⟩
def l1Tk (k : Nat) : Spec := fun Q σ w => gAd (σ 2) fun at2 => gAd (σ 3) fun at3 => gAd (σ 5) fun at5 => gSlice (σ 32) fun At32 nt32 ct32 => gInt .i64 (σ 33) fun xt33 => gInt .i64 (σ 34) fun xt34 => l1 k at2 at3 at5 At32 nt32 ct32 xt33 xt34 w (fun w => ∀ d : Fr, Q (.exit 1) (ov d [(4, σ 4), (5, .pointer (some at5))]) w)
def l1T : Spec := fun Q σ w => ∃ k, l1Tk k Q σ w
def l1tb : List (List Nat × Spec) := [([0, 1, 1, 0, 0, 1, 1, 0, 0, 1, 0, 1, 1, 1, 1], l2T)]
noncomputable def l1b : Code := (subC [0, 0, 1, 0, 1, 1, 1, 1] body).getD .skip
theorem l1_eq (k : Nat) (at2 at3 at5 : Addr) (At32 : Option Addr) (nt32 ct32 : Nat) (xt33 xt34 : Int) (Q : PQ) (σ : Fr) (w : World) : l1 (k + 1) at2 at3 at5 At32 nt32 ct32 xt33 xt34 w (fun w => ∀ d : Fr, Q (.exit 1) (ov d [(4, σ 4), (5, .pointer (some at5))]) w) = codeW Try.prog hT 66 D (tab l1tb) [0, 0, 1, 0, 1, 1, 1, 1] l1b (thenQ (l1Tk k Q) (widen l1LO Q)) (ov σ [(2, .pointer (some at2)), (3, .pointer (some at3)), (5, .pointer (some at5)), (32, .slice At32 nt32 ct32), (33, .int .i64 xt33), (34, .int .i64 xt34)]) w := by kernel_rfl
theorem l1_snd : ∀ c, subC [0, 1, 0, 1, 1, 1, 1] body = some c → Snd Try.prog 66 c l1T := by
 refine loop_of (hT := hT) (D := D) (l := l1tb) (b := l1b) (lo := l1LO) (by kernel_rfl) (by
  intro x hx
  simp only [l1tb, List.mem_cons, List.not_mem_nil, or_false] at hx
  subst hx
  exact l2_snd) (by kernel_rfl) (by kernel_rfl) ?_ ?_
 ·intro Q σ w h
  unfold l1Tk at h
  obtain ⟨_, _, h⟩ := gAd_elim h
  obtain ⟨_, _, h⟩ := gAd_elim h
  obtain ⟨_, _, h⟩ := gAd_elim h
  obtain ⟨_, _, _, _, h⟩ := gSlice_elim h
  obtain ⟨_, _, h⟩ := gInt_elim h
  obtain ⟨_, _, h⟩ := gInt_elim h
  exact h
 ·intro k Q σ w h
  unfold l1Tk at h
  obtain ⟨at2, h2, h⟩ := gAd_elim h
  obtain ⟨at3, h3, h⟩ := gAd_elim h
  obtain ⟨at5, h5, h⟩ := gAd_elim h
  obtain ⟨At32, nt32, ct32, h32, h⟩ := gSlice_elim h
  obtain ⟨xt33, h33, h⟩ := gInt_elim h
  obtain ⟨xt34, h34, h⟩ := gInt_elim h
  rw [l1_eq (σ := σ)] at h
  have e : (ov σ [(2, .pointer (some at2)), (3, .pointer (some at3)), (5, .pointer (some at5)), (32, .slice At32 nt32 ct32), (33, .int .i64 xt33), (34, .int .i64 xt34)]) = σ := ov_self (by simp [h2, h3, h5, h32, h33, h34])
  rw [e] at h
  exact h
def j0LO : LO := ⟨[], [4], [], []⟩
def j0T : Spec := fun Q σ w => gAd (σ 2) fun at2 => gAd (σ 3) fun at3 => gAd (σ 4) fun at4 => gAd (σ 5) fun at5 => j0 at2 at3 at4 at5 w (fun w => ∀ d : Fr, Q .ret (ov d [(4, .pointer (some at4))]) w)
def j0tb : List (List Nat × Spec) := [([0, 1, 1, 0, 0, 1, 1, 0, 0, 1, 0, 1, 1, 1, 1], l2T), ([0, 1, 0, 1, 1, 1, 1], l1T)]
noncomputable def j0b : Code := (subC [1, 1, 1, 1] body).getD .skip
theorem j0_eq (at2 at3 at4 at5 : Addr) (Q : PQ) (σ : Fr) (w : World) : j0 at2 at3 at4 at5 w (fun w => ∀ d : Fr, Q .ret (ov d [(4, .pointer (some at4))]) w) = codeW Try.prog hT 66 D (tab j0tb) [1, 1, 1, 1] j0b (widen j0LO Q) (ov σ [(2, .pointer (some at2)), (3, .pointer (some at3)), (4, .pointer (some at4)), (5, .pointer (some at5))]) w := by kernel_rfl
theorem j0_snd : ∀ c, subC [1, 1, 1, 1] body = some c → Snd Try.prog 66 c j0T := by
 refine cut_of (hT := hT) (D := D) (l := j0tb) (b := j0b) (lo := j0LO) (by kernel_rfl) (by
  intro x hx
  simp only [j0tb, List.mem_cons, List.not_mem_nil, or_false] at hx
  rcases hx with rfl | rfl
  ·exact l2_snd
  ·exact l1_snd) (by kernel_rfl) (by kernel_rfl) ?_
 intro Q σ w h
 unfold j0T at h
 obtain ⟨at2, h2, h⟩ := gAd_elim h
 obtain ⟨at3, h3, h⟩ := gAd_elim h
 obtain ⟨at4, h4, h⟩ := gAd_elim h
 obtain ⟨at5, h5, h⟩ := gAd_elim h
 rw [j0_eq (σ := σ)] at h
 have e : (ov σ [(2, .pointer (some at2)), (3, .pointer (some at3)), (4, .pointer (some at4)), (5, .pointer (some at5))]) = σ := ov_self (by simp [h2, h3, h4, h5])
 rw [e] at h
 exact h
def tb : List (List Nat × Spec) := [([0, 1, 1, 0, 0, 1, 1, 0, 0, 1, 0, 1, 1, 1, 1], l2T), ([0, 1, 0, 1, 1, 1, 1], l1T), ([1, 1, 1, 1], j0T)]
variable (pa0_0 : Option Addr) (xa0_1 xa0_2 xa0_3 : Int) (pa1_0 : Option Addr) (xa1_1 xa1_2 xa1_3 : Int) (w : World) (Q : Ending → World → Prop)
theorem wp_eq : wp pa0_0 xa0_1 xa0_2 xa0_3 pa1_0 xa1_1 xa1_2 xa1_3 w Q = codeW Try.prog hT 66 D (tab tb) [] body (topQ Try.prog hT 66 [.cell 4 60] Q) (argsF [.agg #[.pointer pa0_0, .int .i64 xa0_1, .int .i64 xa0_2, .int .i64 xa0_3], .agg #[.pointer pa1_0, .int .i64 xa1_1, .int .i64 xa1_2, .int .i64 xa1_3]]) w := by kernel_rfl
theorem ok (h : wp pa0_0 xa0_1 xa0_2 xa0_3 pa1_0 xa1_1 xa1_2 xa1_3 w Q) : Calls Try.prog 97 #[.agg #[.pointer pa0_0, .int .i64 xa0_1, .int .i64 xa0_2, .int .i64 xa0_3], .agg #[.pointer pa1_0, .int .i64 xa1_1, .int .i64 xa1_2, .int .i64 xa1_3]] w Q := by
 rw [wp_eq] at h
 refine calls_of_codeW (c := body) (rs := [.cell 4 60]) Try.func97 ?_ ?_ ?_ ?_ ?_ (tab_snd (by
  intro x hx
  simp only [tb, List.mem_cons, List.not_mem_nil, or_false] at hx
  rcases hx with rfl | rfl | rfl
  ·exact l2_snd
  ·exact l1_snd
  ·exact j0_snd)) ?_ h <;> kernel_rfl
end f_span_reach_Plus
namespace f_span_Forest_distance
noncomputable def body : Code := (Try.f98.body).getD .skip
def wp (aa0 : Addr) (xa1 xa2 : Int) (w : World) (Q : Ending → World → Prop) : Prop := ldP w (aa0.add 1) fun p1 => Calls Try.prog 32 #[.pointer p1, .int .i64 xa1, .int .i64 xa2] w fun e2 w3 => ∃ x4_0_0 x4_0_1 x4_0_2 x4_0_3 r4_0_4 i4_0_4 x4_1, e2 = .returned (.tuple #[.agg #[.int .i64 x4_0_0, .int .i64 x4_0_1, .int .i64 x4_0_2, .int .i64 x4_0_3, .complex .f64 r4_0_4 i4_0_4], .int .i64 x4_1]) ∧ (alW w3 (.cells #[.int .i64 0, .int .i64 0, .int .i64 0, .int .i64 0, .complex .f64 0 0] 69) fun B5 w6 => stW w6 ⟨B5, 0, none⟩ (.int .i64 x4_0_0) fun w7 => stW w7 (.add ⟨B5, 0, none⟩ 1) (.int .i64 x4_0_1) fun w8 => stW w8 (.add ⟨B5, 0, none⟩ 2) (.int .i64 x4_0_2) fun w9 => stW w9 (.add ⟨B5, 0, none⟩ 3) (.int .i64 x4_0_3) fun w10 => stW w10 (.add ⟨B5, 0, none⟩ 4) (.complex .f64 r4_0_4 i4_0_4) fun w11 => ldC w11 (.add ⟨B5, 0, none⟩ 4) .f64 fun r12 i12 => Runs Try.prog (Go.convert 72 2 (.float .f64 r12)) w11 fun v14 w13 => ∃ x15, v14 = (.int .i64 x15) ∧ (Q (.returned (.int .i64 x15)) w13))
def D : Nat → Option DH := dtab []
def tb : List (List Nat × Spec) := []
variable (aa0 : Addr) (xa1 xa2 : Int) (w : World) (Q : Ending → World → Prop)
theorem wp_eq : wp aa0 xa1 xa2 w Q = codeW Try.prog hT 23 D (tab tb) [] body (topQ Try.prog hT 23 [.tmp 6] Q) (argsF [.pointer (some aa0), .int .i64 xa1, .int .i64 xa2]) w := by kernel_rfl
theorem ok (h : wp aa0 xa1 xa2 w Q) : Calls Try.prog 98 #[.pointer (some aa0), .int .i64 xa1, .int .i64 xa2] w Q := by
 rw [wp_eq] at h
 refine calls_of_codeW (c := body) (rs := [.tmp 6]) Try.func98 ?_ ?_ ?_ ?_ ?_ (tab_snd (by
  intro x hx
  simp only [tb, List.not_mem_nil] at hx
  )) ?_ h <;> kernel_rfl
end f_span_Forest_distance
namespace f_span_reach_pull
noncomputable def body : Code := (Try.f76.body).getD .skip
def j0 (at0 : Addr) (xt1 : Int) (at4 : Addr) (w : World) (Kn : World → Prop) : Prop := ldI w (at4.add 1) .i64 fun x42 => sel (decide (x42 > 0)) (drW w fun w43 => ldI w43 (at4.add 4) .i64 fun x45 => ldS w43 at0 fun A46 n46 c46 => optB A46 fun a47 => req (decide (0 ≤ x42 ∧ x42 < (n46 : Int))) <| ldI w43 ((a47.add (x42.toNat * 13)).add 4) .i64 fun x48 => stW w43 (at4.add 4) (.int .i64 (IntKind.i64.wrap (x45 + x48))) fun w49 => drW w49 fun w50 => ∃ S51 : World → Prop, S51 w50 ∧ (hdP S51 (at4.add 9) fun p52 => hdI S51 ((at4.add 9).add 1) .i64 fun x53 => hdI S51 ((at4.add 9).add 2) .i64 fun x54 => hdI S51 ((at4.add 9).add 3) .i64 fun x55 => hdS S51 at0 fun A56 n56 c56 => optB A56 fun a57 => req (decide (0 ≤ x42 ∧ x42 < (n56 : Int))) <| hdP S51 ((a57.add (x42.toNat * 13)).add 9) fun p58 => hdI S51 (((a57.add (x42.toNat * 13)).add 9).add 1) .i64 fun x59 => hdI S51 (((a57.add (x42.toNat * 13)).add 9).add 2) .i64 fun x60 => hdI S51 (((a57.add (x42.toNat * 13)).add 9).add 3) .i64 fun x61 => Calls Try.prog 97 #[.agg #[.pointer p52, .int .i64 x53, .int .i64 x54, .int .i64 x55], .agg #[.pointer p58, .int .i64 x59, .int .i64 x60, .int .i64 x61]] w50 fun e62 w63 => ∃ p64_0 x64_1 x64_2 x64_3, e62 = .returned (.agg #[.pointer p64_0, .int .i64 x64_1, .int .i64 x64_2, .int .i64 x64_3]) ∧ (S51 w63 ∧ (stW w63 (at4.add 9) (.pointer p64_0) fun w65 => stW w65 ((at4.add 9).add 1) (.int .i64 x64_1) fun w66 => stW w66 ((at4.add 9).add 2) (.int .i64 x64_2) fun w67 => stW w67 ((at4.add 9).add 3) (.int .i64 x64_3) fun w68 => ldS w68 at0 fun A69 n69 c69 => optB A69 fun a70 => req (decide (0 ≤ x42 ∧ x42 < (n69 : Int))) <| stW w68 ((a70.add (x42.toNat * 13)).add 2) (.int .i64 xt1) fun w71 => Kn w71)))) (Kn w)
def wp (aa0 : Addr) (xa1 : Int) (w : World) (Q : Ending → World → Prop) : Prop := ldS w aa0 fun A1 n1 c1 => optB A1 fun a2 => req (decide (0 ≤ xa1 ∧ xa1 < (n1 : Int))) <| ldP w ((a2.add (xa1.toNat * 13)).add 5) fun p3 => ldI w (((a2.add (xa1.toNat * 13)).add 5).add 1) .i64 fun x4 => ldI w (((a2.add (xa1.toNat * 13)).add 5).add 2) .i64 fun x5 => ldI w (((a2.add (xa1.toNat * 13)).add 5).add 3) .i64 fun x6 => stW w ((a2.add (xa1.toNat * 13)).add 4) (.int .i64 1) fun w7 => stW w7 ((a2.add (xa1.toNat * 13)).add 9) (.pointer p3) fun w8 => stW w8 (((a2.add (xa1.toNat * 13)).add 9).add 1) (.int .i64 x4) fun w9 => stW w9 (((a2.add (xa1.toNat * 13)).add 9).add 2) (.int .i64 x5) fun w10 => stW w10 (((a2.add (xa1.toNat * 13)).add 9).add 3) (.int .i64 x6) fun w11 => ldI w11 (a2.add (xa1.toNat * 13)) .i64 fun x12 => sel (decide (x12 > 0)) (drW w11 fun w13 => ldI w13 ((a2.add (xa1.toNat * 13)).add 4) .i64 fun x15 => ldS w13 aa0 fun A16 n16 c16 => optB A16 fun a17 => req (decide (0 ≤ x12 ∧ x12 < (n16 : Int))) <| ldI w13 ((a17.add (x12.toNat * 13)).add 4) .i64 fun x18 => stW w13 ((a2.add (xa1.toNat * 13)).add 4) (.int .i64 (IntKind.i64.wrap (x15 + x18))) fun w19 => drW w19 fun w20 => ∃ S21 : World → Prop, S21 w20 ∧ (hdS S21 aa0 fun A22 n22 c22 => optB A22 fun a23 => req (decide (0 ≤ x12 ∧ x12 < (n22 : Int))) <| hdP S21 ((a23.add (x12.toNat * 13)).add 9) fun p24 => hdI S21 (((a23.add (x12.toNat * 13)).add 9).add 1) .i64 fun x25 => hdI S21 (((a23.add (x12.toNat * 13)).add 9).add 2) .i64 fun x26 => hdI S21 (((a23.add (x12.toNat * 13)).add 9).add 3) .i64 fun x27 => hdP S21 ((a2.add (xa1.toNat * 13)).add 9) fun p28 => hdI S21 (((a2.add (xa1.toNat * 13)).add 9).add 1) .i64 fun x29 => hdI S21 (((a2.add (xa1.toNat * 13)).add 9).add 2) .i64 fun x30 => hdI S21 (((a2.add (xa1.toNat * 13)).add 9).add 3) .i64 fun x31 => Calls Try.prog 97 #[.agg #[.pointer p24, .int .i64 x25, .int .i64 x26, .int .i64 x27], .agg #[.pointer p28, .int .i64 x29, .int .i64 x30, .int .i64 x31]] w20 fun e32 w33 => ∃ p34_0 x34_1 x34_2 x34_3, e32 = .returned (.agg #[.pointer p34_0, .int .i64 x34_1, .int .i64 x34_2, .int .i64 x34_3]) ∧ (S21 w33 ∧ (stW w33 ((a2.add (xa1.toNat * 13)).add 9) (.pointer p34_0) fun w35 => stW w35 (((a2.add (xa1.toNat * 13)).add 9).add 1) (.int .i64 x34_1) fun w36 => stW w36 (((a2.add (xa1.toNat * 13)).add 9).add 2) (.int .i64 x34_2) fun w37 => stW w37 (((a2.add (xa1.toNat * 13)).add 9).add 3) (.int .i64 x34_3) fun w38 => ldS w38 aa0 fun A39 n39 c39 => optB A39 fun a40 => req (decide (0 ≤ x12 ∧ x12 < (n39 : Int))) <| stW w38 ((a40.add (x12.toNat * 13)).add 2) (.int .i64 xa1) fun w41 => j0 aa0 xa1 (a2.add (xa1.toNat * 13)) w41 (fun w72 => ∀ _ : Fr, Q (.returned (.tuple #[])) w72))))) (j0 aa0 xa1 (a2.add (xa1.toNat * 13)) w11 (fun w73 => ∀ _ : Fr, Q (.returned (.tuple #[])) w73))
def D : Nat → Option DH := dtab [(4, .simple [.fst 0, .fst 1, .fst 2, .fst 3, .fst 4, .fst 5, .fst 6, .fst 7, .fst 8, .fst 9, .fst 10, .fst 11] [.fst 12, .fst 13, .fst 14, .eff 15]), (5, .held [.fst 0, .fst 1, .fst 2, .fst 3, .fst 4, .fst 5, .fst 6, .fst 7, .fst 8, .fst 9, .fst 10, .fst 11, .fst 12, .fst 13, .eff 14] [.fst 15, .fst 16, .eff 17]), (9, .simple [.fst 0, .fst 1, .fst 2, .fst 3, .fst 4, .fst 5, .fst 6, .fst 7, .fst 8, .fst 9, .fst 10, .fst 11] [.fst 12, .fst 13, .fst 14, .eff 15]), (10, .held [.fst 0, .fst 1, .fst 2, .fst 3, .fst 4, .fst 5, .fst 6, .fst 7, .fst 8, .fst 9, .fst 10, .fst 11, .fst 12, .fst 13, .eff 14] [.fst 15, .fst 16, .eff 17])]
def j0LO : LO := ⟨[], [], [], []⟩
def j0T : Spec := fun Q σ w => gAd (σ 0) fun at0 => gInt .i64 (σ 1) fun xt1 => gAd (σ 4) fun at4 => j0 at0 xt1 at4 w (fun w => ∀ d : Fr, Q .normal (ov d []) w)
def j0tb : List (List Nat × Spec) := []
noncomputable def j0b : Code := (subC [1, 1, 1] body).getD .skip
theorem j0_eq (at0 : Addr) (xt1 : Int) (at4 : Addr) (Q : PQ) (σ : Fr) (w : World) : j0 at0 xt1 at4 w (fun w => ∀ d : Fr, Q .normal (ov d []) w) = codeW Try.prog hT 115 D (tab j0tb) [1, 1, 1] j0b (widen j0LO Q) (ov σ [(0, .pointer (some at0)), (1, .int .i64 xt1), (4, .pointer (some at4))]) w := by kernel_rfl
theorem j0_snd : ∀ c, subC [1, 1, 1] body = some c → Snd Try.prog 115 c j0T := by
 refine cut_of (hT := hT) (D := D) (l := j0tb) (b := j0b) (lo := j0LO) (by kernel_rfl) (by
  intro x hx
  simp only [j0tb, List.not_mem_nil] at hx
  ) (by kernel_rfl) (by kernel_rfl) ?_
 intro Q σ w h
 unfold j0T at h
 obtain ⟨at0, h0, h⟩ := gAd_elim h
 obtain ⟨xt1, h1, h⟩ := gInt_elim h
 obtain ⟨at4, h4, h⟩ := gAd_elim h
 rw [j0_eq (σ := σ)] at h
 have e : (ov σ [(0, .pointer (some at0)), (1, .int .i64 xt1), (4, .pointer (some at4))]) = σ := ov_self (by simp [h0, h1, h4])
 rw [e] at h
 exact h
def tb : List (List Nat × Spec) := [([1, 1, 1], j0T)]
variable (aa0 : Addr) (xa1 : Int) (w : World) (Q : Ending → World → Prop)
theorem wp_eq : wp aa0 xa1 w Q = codeW Try.prog hT 115 D (tab tb) [] body (topQ Try.prog hT 115 [] Q) (argsF [.pointer (some aa0), .int .i64 xa1]) w := by kernel_rfl
theorem ok (h : wp aa0 xa1 w Q) : Calls Try.prog 76 #[.pointer (some aa0), .int .i64 xa1] w Q := by
 rw [wp_eq] at h
 refine calls_of_codeW (c := body) (rs := []) Try.func76 ?_ ?_ ?_ ?_ ?_ (tab_snd (by
  intro x hx
  simp only [tb, List.mem_cons, List.not_mem_nil, or_false] at hx
  subst hx
  exact j0_snd)) ?_ h <;> kernel_rfl
end f_span_reach_pull
namespace f_span_reach_Set
noncomputable def body : Code := (Try.f59.body).getD .skip
def l0 : Nat → Addr → Int → World → (World → Prop) → Prop | 0, _, _, _, _ => False | k + 1, at0, xt1, w, K0 => sel (decide (xt1 > 0)) (Calls Try.prog 76 #[.pointer (some at0), .int .i64 xt1] w fun e20 w21 => e20 = .returned (.tuple #[]) ∧ (ldS w21 at0 fun A22 n22 c22 => optB A22 fun a23 => req (decide (0 ≤ xt1 ∧ xt1 < (n22 : Int))) <| ldI w21 ((a23.add (xt1.toNat * 13)).add 2) .i64 fun x24 => l0 k at0 x24 w21 K0)) (K0 w)
def wp (aa0 : Addr) (xa1 : Int) (pa2_0 : Option Addr) (xa2_1 xa2_2 xa2_3 : Int) (w : World) (Q : Ending → World → Prop) : Prop := alW w (.cells #[.pointer pa2_0, .int .i64 xa2_1, .int .i64 xa2_2, .int .i64 xa2_3] 60) fun B1 w2 => alW w2 (.cells #[.int .i64 xa1] 3) fun B3 w4 => Calls Try.prog 61 #[.pointer (some aa0), .slice (some ⟨B3, 0, none⟩) 1 1] w4 fun e5 w6 => ∃ b7, e5 = .returned (.bool b7) ∧ (sel b7 (Q (.returned (.int .i64 150)) w6) (drW w6 fun w8 => ldS w8 aa0 fun A10 n10 c10 => ldP w8 ⟨B1, 0, none⟩ fun p11 => ldI w8 (.add ⟨B1, 0, none⟩ 1) .i64 fun x12 => ldI w8 (.add ⟨B1, 0, none⟩ 2) .i64 fun x13 => ldI w8 (.add ⟨B1, 0, none⟩ 3) .i64 fun x14 => optB A10 fun a15 => req (decide (0 ≤ xa1 ∧ xa1 < (n10 : Int))) <| stW w8 ((a15.add (xa1.toNat * 13)).add 5) (.pointer p11) fun w16 => stW w16 (((a15.add (xa1.toNat * 13)).add 5).add 1) (.int .i64 x12) fun w17 => stW w17 (((a15.add (xa1.toNat * 13)).add 5).add 2) (.int .i64 x13) fun w18 => stW w18 (((a15.add (xa1.toNat * 13)).add 5).add 3) (.int .i64 x14) fun w19 => ∃ k26, l0 k26 aa0 xa1 w19 (fun w25 => ∀ _ : Fr, Q (.returned (.int .i64 0)) w25)))
def D : Nat → Option DH := dtab [(3, .simple [.fst 0, .fst 1, .fst 2, .fst 3, .fst 4, .fst 5] [.fst 6, .fst 7, .eff 8])]
def l0LO : LO := ⟨[], [], [(0, [])], []⟩
def l0Tk (k : Nat) : Spec := fun Q σ w => gAd (σ 0) fun at0 => gInt .i64 (σ 1) fun xt1 => l0 k at0 xt1 w (fun w => ∀ d : Fr, Q (.exit 0) (ov d []) w)
def l0T : Spec := fun Q σ w => ∃ k, l0Tk k Q σ w
def l0tb : List (List Nat × Spec) := []
noncomputable def l0b : Code := (subC [0, 0, 0, 1, 1, 1] body).getD .skip
theorem l0_eq (k : Nat) (at0 : Addr) (xt1 : Int) (Q : PQ) (σ : Fr) (w : World) : l0 (k + 1) at0 xt1 w (fun w => ∀ d : Fr, Q (.exit 0) (ov d []) w) = codeW Try.prog hT 32 D (tab l0tb) [0, 0, 0, 1, 1, 1] l0b (thenQ (l0Tk k Q) (widen l0LO Q)) (ov σ [(0, .pointer (some at0)), (1, .int .i64 xt1)]) w := by kernel_rfl
theorem l0_snd : ∀ c, subC [0, 0, 1, 1, 1] body = some c → Snd Try.prog 32 c l0T := by
 refine loop_of (hT := hT) (D := D) (l := l0tb) (b := l0b) (lo := l0LO) (by kernel_rfl) (by
  intro x hx
  simp only [l0tb, List.not_mem_nil] at hx
  ) (by kernel_rfl) (by kernel_rfl) ?_ ?_
 ·intro Q σ w h
  unfold l0Tk at h
  obtain ⟨_, _, h⟩ := gAd_elim h
  obtain ⟨_, _, h⟩ := gInt_elim h
  exact h
 ·intro k Q σ w h
  unfold l0Tk at h
  obtain ⟨at0, h0, h⟩ := gAd_elim h
  obtain ⟨xt1, h1, h⟩ := gInt_elim h
  rw [l0_eq (σ := σ)] at h
  have e : (ov σ [(0, .pointer (some at0)), (1, .int .i64 xt1)]) = σ := ov_self (by simp [h0, h1])
  rw [e] at h
  exact h
def tb : List (List Nat × Spec) := [([0, 0, 1, 1, 1], l0T)]
variable (aa0 : Addr) (xa1 : Int) (pa2_0 : Option Addr) (xa2_1 xa2_2 xa2_3 : Int) (w : World) (Q : Ending → World → Prop)
theorem wp_eq : wp aa0 xa1 pa2_0 xa2_1 xa2_2 xa2_3 w Q = codeW Try.prog hT 32 D (tab tb) [] body (topQ Try.prog hT 32 [.tmp 6] Q) (argsF [.pointer (some aa0), .int .i64 xa1, .agg #[.pointer pa2_0, .int .i64 xa2_1, .int .i64 xa2_2, .int .i64 xa2_3]]) w := by kernel_rfl
theorem ok (h : wp aa0 xa1 pa2_0 xa2_1 xa2_2 xa2_3 w Q) : Calls Try.prog 59 #[.pointer (some aa0), .int .i64 xa1, .agg #[.pointer pa2_0, .int .i64 xa2_1, .int .i64 xa2_2, .int .i64 xa2_3]] w Q := by
 rw [wp_eq] at h
 refine calls_of_codeW (c := body) (rs := [.tmp 6]) Try.func59 ?_ ?_ ?_ ?_ ?_ (tab_snd (by
  intro x hx
  simp only [tb, List.mem_cons, List.not_mem_nil, or_false] at hx
  subst hx
  exact l0_snd)) ?_ h <;> kernel_rfl
end f_span_reach_Set
namespace f_span_reach_Make
noncomputable def body : Code := (Try.f60.body).getD .skip
def wp (aa0 : Addr) (pa1_0 : Option Addr) (xa1_1 xa1_2 xa1_3 : Int) (w : World) (Q : Ending → World → Prop) : Prop := alW w (.cells #[.pointer pa1_0, .int .i64 xa1_1, .int .i64 xa1_2, .int .i64 xa1_3] 60) fun B1 w2 => ldS w2 aa0 fun A3 n3 c3 => sel (decide ((n3 : Int) > 65536)) (Q (.returned (.tuple #[.int .i64 0, .int .i64 55])) w2) (drW w2 fun w4 => ∃ S5 : World → Prop, S5 w4 ∧ (hdS S5 aa0 fun A6 n6 c6 => hdP S5 ⟨B1, 0, none⟩ fun p7 => hdI S5 (.add ⟨B1, 0, none⟩ 1) .i64 fun x8 => hdI S5 (.add ⟨B1, 0, none⟩ 2) .i64 fun x9 => hdI S5 (.add ⟨B1, 0, none⟩ 3) .i64 fun x10 => hdP S5 ⟨B1, 0, none⟩ fun p11 => hdI S5 (.add ⟨B1, 0, none⟩ 1) .i64 fun x12 => hdI S5 (.add ⟨B1, 0, none⟩ 2) .i64 fun x13 => hdI S5 (.add ⟨B1, 0, none⟩ 3) .i64 fun x14 => Calls Try.prog 77 #[.pointer (some aa0)] w4 fun e15 w16 => ∃ x17, e15 = .returned (.int .u64 x17) ∧ (S5 w16 ∧ (alW w16 (.cells #[.int .i64 0, .int .i64 0, .int .i64 0, .int .u64 x17, .int .i64 1, .pointer p7, .int .i64 x8, .int .i64 x9, .int .i64 x10, .pointer p11, .int .i64 x12, .int .i64 x13, .int .i64 x14] 120) fun B18 w19 => S5 w19 ∧ (Runs Try.prog (Builtin.append_ #[92, 92] 92 #[.slice A6 n6 c6, .slice (some ⟨B18, 0, none⟩) 1 1]) w19 fun v21 w20 => ∃ A22 n22 c22, v21 = (.slice A22 n22 c22) ∧ (S5 w20 ∧ (stW w20 aa0 (.slice A22 n22 c22) fun w23 => ldS w23 aa0 fun A24 n24 c24 => Q (.returned (.tuple #[.int .i64 (IntKind.i64.wrap ((n24 : Int) - 1)), .int .i64 0])) w23)))))))
def D : Nat → Option DH := dtab [(3, .held [.fst 0, .fst 1, .fst 2, .fst 3, .fst 4, .fst 5, .fst 7, .fst 8, .eff 6, .fst 9, .eff 10, .eff 11] [.fst 12, .fst 13, .eff 14])]
def tb : List (List Nat × Spec) := []
variable (aa0 : Addr) (pa1_0 : Option Addr) (xa1_1 xa1_2 xa1_3 : Int) (w : World) (Q : Ending → World → Prop)
theorem wp_eq : wp aa0 pa1_0 xa1_1 xa1_2 xa1_3 w Q = codeW Try.prog hT 32 D (tab tb) [] body (topQ Try.prog hT 32 [.tmp 4, .tmp 5] Q) (argsF [.pointer (some aa0), .agg #[.pointer pa1_0, .int .i64 xa1_1, .int .i64 xa1_2, .int .i64 xa1_3]]) w := by kernel_rfl
theorem ok (h : wp aa0 pa1_0 xa1_1 xa1_2 xa1_3 w Q) : Calls Try.prog 60 #[.pointer (some aa0), .agg #[.pointer pa1_0, .int .i64 xa1_1, .int .i64 xa1_2, .int .i64 xa1_3]] w Q := by
 rw [wp_eq] at h
 refine calls_of_codeW (c := body) (rs := [.tmp 4, .tmp 5]) Try.func60 ?_ ?_ ?_ ?_ ?_ (tab_snd (by
  intro x hx
  simp only [tb, List.not_mem_nil] at hx
  )) ?_ h <;> kernel_rfl
end f_span_reach_Make
namespace f_span_reach_bad
noncomputable def body : Code := (Try.f61.body).getD .skip
def l0 : Nat → Addr → Option Addr → Nat → Nat → Int → Int → World → (World → Prop) → (Bool → World → Prop) → Prop | 0, _, _, _, _, _, _, _, _, _ => False | k + 1, at0, At7, nt7, ct7, xt8, xt9, w, K0, Kr => sel (decide (xt9 < xt8)) (optB At7 fun a1 => req (decide (0 ≤ xt9 ∧ xt9 < (nt7 : Int))) <| ldI w (a1.add (xt9.toNat * 1)) .i64 fun x2 => sel (decide (x2 < 1)) (Kr true w) (ldS w at0 fun A3 n3 c3 => sel (decide (x2 ≥ (n3 : Int))) (Kr true w) (l0 k at0 At7 nt7 ct7 xt8 (IntKind.i64.wrap (xt9 + 1)) w K0 Kr))) (K0 w)
def wp (aa0 : Addr) (Aa1 : Option Addr) (na1 ca1 : Nat) (w : World) (Q : Ending → World → Prop) : Prop := ∃ k7, l0 k7 aa0 Aa1 na1 ca1 (na1 : Int) 0 w (fun w4 => ∀ _ : Fr, Q (.returned (.bool false)) w4) (fun b5 w6 => ∀ _ : Fr, Q (.returned (.bool b5)) w6)
def D : Nat → Option DH := dtab []
def l0LO : LO := ⟨[], [4], [(0, [])], []⟩
def l0Tk (k : Nat) : Spec := fun Q σ w => gAd (σ 0) fun at0 => gSlice (σ 7) fun At7 nt7 ct7 => gInt .i64 (σ 8) fun xt8 => gInt .i64 (σ 9) fun xt9 => l0 k at0 At7 nt7 ct7 xt8 xt9 w (fun w => ∀ d : Fr, Q (.exit 0) (ov d []) w) (fun bq4 w => ∀ d : Fr, Q .ret (ov d [(4, .bool bq4)]) w)
def l0T : Spec := fun Q σ w => ∃ k, l0Tk k Q σ w
def l0tb : List (List Nat × Spec) := []
noncomputable def l0b : Code := (subC [0, 0, 1, 0, 1] body).getD .skip
theorem l0_eq (k : Nat) (at0 : Addr) (At7 : Option Addr) (nt7 ct7 : Nat) (xt8 xt9 : Int) (Q : PQ) (σ : Fr) (w : World) : l0 (k + 1) at0 At7 nt7 ct7 xt8 xt9 w (fun w => ∀ d : Fr, Q (.exit 0) (ov d []) w) (fun bq4 w => ∀ d : Fr, Q .ret (ov d [(4, .bool bq4)]) w) = codeW Try.prog hT 25 D (tab l0tb) [0, 0, 1, 0, 1] l0b (thenQ (l0Tk k Q) (widen l0LO Q)) (ov σ [(0, .pointer (some at0)), (7, .slice At7 nt7 ct7), (8, .int .i64 xt8), (9, .int .i64 xt9)]) w := by kernel_rfl
theorem l0_snd : ∀ c, subC [0, 1, 0, 1] body = some c → Snd Try.prog 25 c l0T := by
 refine loop_of (hT := hT) (D := D) (l := l0tb) (b := l0b) (lo := l0LO) (by kernel_rfl) (by
  intro x hx
  simp only [l0tb, List.not_mem_nil] at hx
  ) (by kernel_rfl) (by kernel_rfl) ?_ ?_
 ·intro Q σ w h
  unfold l0Tk at h
  obtain ⟨_, _, h⟩ := gAd_elim h
  obtain ⟨_, _, _, _, h⟩ := gSlice_elim h
  obtain ⟨_, _, h⟩ := gInt_elim h
  obtain ⟨_, _, h⟩ := gInt_elim h
  exact h
 ·intro k Q σ w h
  unfold l0Tk at h
  obtain ⟨at0, h0, h⟩ := gAd_elim h
  obtain ⟨At7, nt7, ct7, h7, h⟩ := gSlice_elim h
  obtain ⟨xt8, h8, h⟩ := gInt_elim h
  obtain ⟨xt9, h9, h⟩ := gInt_elim h
  rw [l0_eq (σ := σ)] at h
  have e : (ov σ [(0, .pointer (some at0)), (7, .slice At7 nt7 ct7), (8, .int .i64 xt8), (9, .int .i64 xt9)]) = σ := ov_self (by simp [h0, h7, h8, h9])
  rw [e] at h
  exact h
def tb : List (List Nat × Spec) := [([0, 1, 0, 1], l0T)]
variable (aa0 : Addr) (Aa1 : Option Addr) (na1 ca1 : Nat) (w : World) (Q : Ending → World → Prop)
theorem wp_eq : wp aa0 Aa1 na1 ca1 w Q = codeW Try.prog hT 25 D (tab tb) [] body (topQ Try.prog hT 25 [.tmp 4] Q) (argsF [.pointer (some aa0), .slice Aa1 na1 ca1]) w := by kernel_rfl
theorem ok (h : wp aa0 Aa1 na1 ca1 w Q) : Calls Try.prog 61 #[.pointer (some aa0), .slice Aa1 na1 ca1] w Q := by
 rw [wp_eq] at h
 refine calls_of_codeW (c := body) (rs := [.tmp 4]) Try.func61 ?_ ?_ ?_ ?_ ?_ (tab_snd (by
  intro x hx
  simp only [tb, List.mem_cons, List.not_mem_nil, or_false] at hx
  subst hx
  exact l0_snd)) ?_ h <;> kernel_rfl
end f_span_reach_bad
namespace f_span_reach_root
noncomputable def body : Code := (Try.f62.body).getD .skip
def l0 : Nat → Addr → Int → World → (Int → World → Prop) → Prop | 0, _, _, _, _ => False | k + 1, at0, xt1, w, K0 => ldS w at0 fun A1 n1 c1 => optB A1 fun a2 => req (decide (0 ≤ xt1 ∧ xt1 < (n1 : Int))) <| ldI w ((a2.add (xt1.toNat * 13)).add 2) .i64 fun x3 => sel (decide (x3 > 0)) (ldS w at0 fun A4 n4 c4 => optB A4 fun a5 => req (decide (0 ≤ xt1 ∧ xt1 < (n4 : Int))) <| ldI w ((a5.add (xt1.toNat * 13)).add 2) .i64 fun x6 => l0 k at0 x6 w K0) (K0 xt1 w)
def wp (aa0 : Addr) (xa1 : Int) (w : World) (Q : Ending → World → Prop) : Prop := ∃ k9, l0 k9 aa0 xa1 w (fun x7 w8 => ∀ _ : Fr, Q (.returned (.int .i64 x7)) w8)
def D : Nat → Option DH := dtab []
def l0LO : LO := ⟨[], [], [(0, [1])], []⟩
def l0Tk (k : Nat) : Spec := fun Q σ w => gAd (σ 0) fun at0 => gInt .i64 (σ 1) fun xt1 => l0 k at0 xt1 w (fun xq1 w => ∀ d : Fr, Q (.exit 0) (ov d [(1, .int .i64 xq1)]) w)
def l0T : Spec := fun Q σ w => ∃ k, l0Tk k Q σ w
def l0tb : List (List Nat × Spec) := []
noncomputable def l0b : Code := (subC [0, 0, 0, 1] body).getD .skip
theorem l0_eq (k : Nat) (at0 : Addr) (xt1 : Int) (Q : PQ) (σ : Fr) (w : World) : l0 (k + 1) at0 xt1 w (fun xq1 w => ∀ d : Fr, Q (.exit 0) (ov d [(1, .int .i64 xq1)]) w) = codeW Try.prog hT 23 D (tab l0tb) [0, 0, 0, 1] l0b (thenQ (l0Tk k Q) (widen l0LO Q)) (ov σ [(0, .pointer (some at0)), (1, .int .i64 xt1)]) w := by kernel_rfl
theorem l0_snd : ∀ c, subC [0, 0, 1] body = some c → Snd Try.prog 23 c l0T := by
 refine loop_of (hT := hT) (D := D) (l := l0tb) (b := l0b) (lo := l0LO) (by kernel_rfl) (by
  intro x hx
  simp only [l0tb, List.not_mem_nil] at hx
  ) (by kernel_rfl) (by kernel_rfl) ?_ ?_
 ·intro Q σ w h
  unfold l0Tk at h
  obtain ⟨_, _, h⟩ := gAd_elim h
  obtain ⟨_, _, h⟩ := gInt_elim h
  exact h
 ·intro k Q σ w h
  unfold l0Tk at h
  obtain ⟨at0, h0, h⟩ := gAd_elim h
  obtain ⟨xt1, h1, h⟩ := gInt_elim h
  rw [l0_eq (σ := σ)] at h
  have e : (ov σ [(0, .pointer (some at0)), (1, .int .i64 xt1)]) = σ := ov_self (by simp [h0, h1])
  rw [e] at h
  exact h
def tb : List (List Nat × Spec) := [([0, 0, 1], l0T)]
variable (aa0 : Addr) (xa1 : Int) (w : World) (Q : Ending → World → Prop)
theorem wp_eq : wp aa0 xa1 w Q = codeW Try.prog hT 23 D (tab tb) [] body (topQ Try.prog hT 23 [.tmp 4] Q) (argsF [.pointer (some aa0), .int .i64 xa1]) w := by kernel_rfl
theorem ok (h : wp aa0 xa1 w Q) : Calls Try.prog 62 #[.pointer (some aa0), .int .i64 xa1] w Q := by
 rw [wp_eq] at h
 refine calls_of_codeW (c := body) (rs := [.tmp 4]) Try.func62 ?_ ?_ ?_ ?_ ?_ (tab_snd (by
  intro x hx
  simp only [tb, List.mem_cons, List.not_mem_nil, or_false] at hx
  subst hx
  exact l0_snd)) ?_ h <;> kernel_rfl
end f_span_reach_root
namespace f_span_reach_free
noncomputable def body : Code := (Try.f63.body).getD .skip
def wp (aa0 : Addr) (xa1 : Int) (w : World) (Q : Ending → World → Prop) : Prop := sel (decide (xa1 > 0)) (ldS w aa0 fun A1 n1 c1 => optB A1 fun a2 => req (decide (0 ≤ xa1 ∧ xa1 < (n1 : Int))) <| stW w ((a2.add (xa1.toNat * 13)).add 2) (.int .i64 0) fun w3 => Q (.returned (.tuple #[])) w3) (Q (.returned (.tuple #[])) w)
def D : Nat → Option DH := dtab []
def tb : List (List Nat × Spec) := []
variable (aa0 : Addr) (xa1 : Int) (w : World) (Q : Ending → World → Prop)
theorem wp_eq : wp aa0 xa1 w Q = codeW Try.prog hT 13 D (tab tb) [] body (topQ Try.prog hT 13 [] Q) (argsF [.pointer (some aa0), .int .i64 xa1]) w := by kernel_rfl
theorem ok (h : wp aa0 xa1 w Q) : Calls Try.prog 63 #[.pointer (some aa0), .int .i64 xa1] w Q := by
 rw [wp_eq] at h
 refine calls_of_codeW (c := body) (rs := []) Try.func63 ?_ ?_ ?_ ?_ ?_ (tab_snd (by
  intro x hx
  simp only [tb, List.not_mem_nil] at hx
  )) ?_ h <;> kernel_rfl
end f_span_reach_free
namespace f_span_reach_merge
noncomputable def body : Code := (Try.f64.body).getD .skip
def wp (aa0 : Addr) (xa1 xa2 : Int) (w : World) (Q : Ending → World → Prop) : Prop := sel (xa1 == 0) (Q (.returned (.int .i64 xa2)) w) (sel (xa2 == 0) (Q (.returned (.int .i64 xa1)) w) (drW w fun w1 => ldS w1 aa0 fun A3 n3 c3 => optB A3 fun a4 => req (decide (0 ≤ xa1 ∧ xa1 < (n3 : Int))) <| ldI w1 ((a4.add (xa1.toNat * 13)).add 3) .u64 fun x5 => ldS w1 aa0 fun A6 n6 c6 => optB A6 fun a7 => req (decide (0 ≤ xa2 ∧ xa2 < (n6 : Int))) <| ldI w1 ((a7.add (xa2.toNat * 13)).add 3) .u64 fun x8 => sel (decide (x5 ≥ x8)) (drW w1 fun w9 => ∃ S10 : World → Prop, S10 w9 ∧ (hdS S10 aa0 fun A11 n11 c11 => hdS S10 aa0 fun A12 n12 c12 => optB A12 fun a13 => req (decide (0 ≤ xa1 ∧ xa1 < (n12 : Int))) <| hdI S10 ((a13.add (xa1.toNat * 13)).add 1) .i64 fun x14 => Calls Try.prog 64 #[.pointer (some aa0), .int .i64 x14, .int .i64 xa2] w9 fun e15 w16 => ∃ x17, e15 = .returned (.int .i64 x17) ∧ (S10 w16 ∧ (optB A11 fun a18 => req (decide (0 ≤ xa1 ∧ xa1 < (n11 : Int))) <| stW w16 ((a18.add (xa1.toNat * 13)).add 1) (.int .i64 x17) fun w19 => Calls Try.prog 76 #[.pointer (some aa0), .int .i64 xa1] w19 fun e20 w21 => e20 = .returned (.tuple #[]) ∧ (Q (.returned (.int .i64 xa1)) w21))))) (drW w1 fun w22 => ∃ S23 : World → Prop, S23 w22 ∧ (hdS S23 aa0 fun A24 n24 c24 => hdS S23 aa0 fun A25 n25 c25 => optB A25 fun a26 => req (decide (0 ≤ xa2 ∧ xa2 < (n25 : Int))) <| hdI S23 (a26.add (xa2.toNat * 13)) .i64 fun x27 => Calls Try.prog 64 #[.pointer (some aa0), .int .i64 xa1, .int .i64 x27] w22 fun e28 w29 => ∃ x30, e28 = .returned (.int .i64 x30) ∧ (S23 w29 ∧ (optB A24 fun a31 => req (decide (0 ≤ xa2 ∧ xa2 < (n24 : Int))) <| stW w29 (a31.add (xa2.toNat * 13)) (.int .i64 x30) fun w32 => Calls Try.prog 76 #[.pointer (some aa0), .int .i64 xa2] w32 fun e33 w34 => e33 = .returned (.tuple #[]) ∧ (Q (.returned (.int .i64 xa2)) w34)))))))
def D : Nat → Option DH := dtab [(5, .simple [.fst 0, .fst 1, .fst 2, .fst 3, .fst 4, .fst 5, .fst 6, .fst 7, .fst 8, .fst 9, .fst 10, .fst 11, .fst 12, .fst 13, .fst 14, .fst 15] [.fst 16]), (6, .held [.fst 0, .fst 1, .fst 2, .fst 3, .fst 4, .fst 5, .fst 6, .fst 7, .fst 8, .fst 9, .fst 10, .fst 11, .fst 12, .fst 13, .fst 14, .eff 15] [.fst 16, .fst 17, .eff 18]), (9, .held [.fst 0, .fst 1, .fst 2, .fst 3, .fst 4, .fst 5, .fst 6, .fst 7, .fst 8, .fst 9, .fst 10, .fst 11, .fst 12, .fst 13, .fst 14, .eff 15] [.fst 16, .fst 17, .eff 18])]
def tb : List (List Nat × Spec) := []
variable (aa0 : Addr) (xa1 xa2 : Int) (w : World) (Q : Ending → World → Prop)
theorem wp_eq : wp aa0 xa1 xa2 w Q = codeW Try.prog hT 76 D (tab tb) [] body (topQ Try.prog hT 76 [.tmp 6] Q) (argsF [.pointer (some aa0), .int .i64 xa1, .int .i64 xa2]) w := by kernel_rfl
theorem ok (h : wp aa0 xa1 xa2 w Q) : Calls Try.prog 64 #[.pointer (some aa0), .int .i64 xa1, .int .i64 xa2] w Q := by
 rw [wp_eq] at h
 refine calls_of_codeW (c := body) (rs := [.tmp 6]) Try.func64 ?_ ?_ ?_ ?_ ?_ (tab_snd (by
  intro x hx
  simp only [tb, List.not_mem_nil] at hx
  )) ?_ h <;> kernel_rfl
end f_span_reach_merge
namespace f_span_reach_split
noncomputable def body : Code := (Try.f66.body).getD .skip
def j0 (at0 : Addr) (xt1 xt2 xt8 xt9 : Int) (w : World) (Kr : Int → Int → World → Prop) : Prop := sel (decide (xt2 ≤ xt9)) (Calls Try.prog 66 #[.pointer (some at0), .int .i64 xt8, .int .i64 xt2] w fun e7 w8 => ∃ x9_0 x9_1, e7 = .returned (.tuple #[.int .i64 x9_0, .int .i64 x9_1]) ∧ (ldS w8 at0 fun A10 n10 c10 => optB A10 fun a11 => req (decide (0 ≤ xt1 ∧ xt1 < (n10 : Int))) <| stW w8 (a11.add (xt1.toNat * 13)) (.int .i64 x9_1) fun w12 => Calls Try.prog 76 #[.pointer (some at0), .int .i64 xt1] w12 fun e13 w14 => e13 = .returned (.tuple #[]) ∧ (Kr x9_0 xt1 w14))) (ldS w at0 fun A15 n15 c15 => optB A15 fun a16 => req (decide (0 ≤ xt1 ∧ xt1 < (n15 : Int))) <| ldI w ((a16.add (xt1.toNat * 13)).add 1) .i64 fun x17 => Calls Try.prog 66 #[.pointer (some at0), .int .i64 x17, .int .i64 (IntKind.i64.wrap ((IntKind.i64.wrap (xt2 - xt9)) - 1))] w fun e18 w19 => ∃ x20_0 x20_1, e18 = .returned (.tuple #[.int .i64 x20_0, .int .i64 x20_1]) ∧ (ldS w19 at0 fun A21 n21 c21 => optB A21 fun a22 => req (decide (0 ≤ xt1 ∧ xt1 < (n21 : Int))) <| stW w19 ((a22.add (xt1.toNat * 13)).add 1) (.int .i64 x20_0) fun w23 => Calls Try.prog 76 #[.pointer (some at0), .int .i64 xt1] w23 fun e24 w25 => e24 = .returned (.tuple #[]) ∧ (Kr xt1 x20_1 w25)))
def wp (aa0 : Addr) (xa1 xa2 : Int) (w : World) (Q : Ending → World → Prop) : Prop := sel (xa1 == 0) (Q (.returned (.tuple #[.int .i64 0, .int .i64 0])) w) (ldS w aa0 fun A1 n1 c1 => optB A1 fun a2 => req (decide (0 ≤ xa1 ∧ xa1 < (n1 : Int))) <| ldI w (a2.add (xa1.toNat * 13)) .i64 fun x3 => sel (decide (x3 > 0)) (ldS w aa0 fun A4 n4 c4 => optB A4 fun a5 => req (decide (0 ≤ x3 ∧ x3 < (n4 : Int))) <| ldI w ((a5.add (x3.toNat * 13)).add 4) .i64 fun x6 => j0 aa0 xa1 xa2 x3 x6 w (fun x26 x27 w28 => ∀ _ : Fr, Q (.returned (.tuple #[.int .i64 x26, .int .i64 x27])) w28)) (j0 aa0 xa1 xa2 x3 0 w (fun x29 x30 w31 => ∀ _ : Fr, Q (.returned (.tuple #[.int .i64 x29, .int .i64 x30])) w31)))
def D : Nat → Option DH := dtab []
def j0LO : LO := ⟨[], [6, 7], [], []⟩
def j0T : Spec := fun Q σ w => gAd (σ 0) fun at0 => gInt .i64 (σ 1) fun xt1 => gInt .i64 (σ 2) fun xt2 => gInt .i64 (σ 8) fun xt8 => gInt .i64 (σ 9) fun xt9 => j0 at0 xt1 xt2 xt8 xt9 w (fun xq6 xq7 w => ∀ d : Fr, Q .ret (ov d [(6, .int .i64 xq6), (7, .int .i64 xq7)]) w)
def j0tb : List (List Nat × Spec) := []
noncomputable def j0b : Code := (subC [1, 1, 1, 1, 1] body).getD .skip
theorem j0_eq (at0 : Addr) (xt1 xt2 xt8 xt9 : Int) (Q : PQ) (σ : Fr) (w : World) : j0 at0 xt1 xt2 xt8 xt9 w (fun xq6 xq7 w => ∀ d : Fr, Q .ret (ov d [(6, .int .i64 xq6), (7, .int .i64 xq7)]) w) = codeW Try.prog hT 87 D (tab j0tb) [1, 1, 1, 1, 1] j0b (widen j0LO Q) (ov σ [(0, .pointer (some at0)), (1, .int .i64 xt1), (2, .int .i64 xt2), (8, .int .i64 xt8), (9, .int .i64 xt9)]) w := by kernel_rfl
theorem j0_snd : ∀ c, subC [1, 1, 1, 1, 1] body = some c → Snd Try.prog 87 c j0T := by
 refine cut_of (hT := hT) (D := D) (l := j0tb) (b := j0b) (lo := j0LO) (by kernel_rfl) (by
  intro x hx
  simp only [j0tb, List.not_mem_nil] at hx
  ) (by kernel_rfl) (by kernel_rfl) ?_
 intro Q σ w h
 unfold j0T at h
 obtain ⟨at0, h0, h⟩ := gAd_elim h
 obtain ⟨xt1, h1, h⟩ := gInt_elim h
 obtain ⟨xt2, h2, h⟩ := gInt_elim h
 obtain ⟨xt8, h8, h⟩ := gInt_elim h
 obtain ⟨xt9, h9, h⟩ := gInt_elim h
 rw [j0_eq (σ := σ)] at h
 have e : (ov σ [(0, .pointer (some at0)), (1, .int .i64 xt1), (2, .int .i64 xt2), (8, .int .i64 xt8), (9, .int .i64 xt9)]) = σ := ov_self (by simp [h0, h1, h2, h8, h9])
 rw [e] at h
 exact h
def tb : List (List Nat × Spec) := [([1, 1, 1, 1, 1], j0T)]
variable (aa0 : Addr) (xa1 xa2 : Int) (w : World) (Q : Ending → World → Prop)
theorem wp_eq : wp aa0 xa1 xa2 w Q = codeW Try.prog hT 87 D (tab tb) [] body (topQ Try.prog hT 87 [.tmp 6, .tmp 7] Q) (argsF [.pointer (some aa0), .int .i64 xa1, .int .i64 xa2]) w := by kernel_rfl
theorem ok (h : wp aa0 xa1 xa2 w Q) : Calls Try.prog 66 #[.pointer (some aa0), .int .i64 xa1, .int .i64 xa2] w Q := by
 rw [wp_eq] at h
 refine calls_of_codeW (c := body) (rs := [.tmp 6, .tmp 7]) Try.func66 ?_ ?_ ?_ ?_ ?_ (tab_snd (by
  intro x hx
  simp only [tb, List.mem_cons, List.not_mem_nil, or_false] at hx
  subst hx
  exact j0_snd)) ?_ h <;> kernel_rfl
end f_span_reach_split
namespace f_span_reach_index
noncomputable def body : Code := (Try.f67.body).getD .skip
def j1 (at0 : Addr) (xt1 : Int) (w : World) (Kn : Int → World → Prop) : Prop := ldS w at0 fun A23 n23 c23 => optB A23 fun a24 => req (decide (0 ≤ xt1 ∧ xt1 < (n23 : Int))) <| ldI w ((a24.add (xt1.toNat * 13)).add 2) .i64 fun x25 => Kn x25 w
def l0 : Nat → Addr → Int → Int → Int → World → (Int → World → Prop) → Prop | 0, _, _, _, _, _, _ => False | k + 1, at0, xt1, xt5, xt6, w, K0 => sel (decide (xt6 > 0)) (ldS w at0 fun A12 n12 c12 => optB A12 fun a13 => req (decide (0 ≤ xt6 ∧ xt6 < (n12 : Int))) <| ldI w ((a13.add (xt6.toNat * 13)).add 1) .i64 fun x14 => sel (x14 == xt1) (drW w fun w15 => ldS w15 at0 fun A17 n17 c17 => ldS w15 at0 fun A18 n18 c18 => optB A18 fun a19 => req (decide (0 ≤ xt6 ∧ xt6 < (n18 : Int))) <| ldI w15 (a19.add (xt6.toNat * 13)) .i64 fun x20 => optB A17 fun a21 => req (decide (0 ≤ x20 ∧ x20 < (n17 : Int))) <| ldI w15 ((a21.add (x20.toNat * 13)).add 4) .i64 fun x22 => j1 at0 xt6 w15 (fun x26 w27 => ∀ _ : Fr, l0 k at0 xt6 (IntKind.i64.wrap (xt5 + (IntKind.i64.wrap (x22 + 1)))) x26 w27 K0)) (j1 at0 xt6 w (fun x28 w29 => ∀ _ : Fr, l0 k at0 xt6 xt5 x28 w29 K0))) (K0 xt5 w)
def wp (aa0 : Addr) (xa1 : Int) (w : World) (Q : Ending → World → Prop) : Prop := drW w fun w1 => ldS w1 aa0 fun A3 n3 c3 => ldS w1 aa0 fun A4 n4 c4 => optB A4 fun a5 => req (decide (0 ≤ xa1 ∧ xa1 < (n4 : Int))) <| ldI w1 (a5.add (xa1.toNat * 13)) .i64 fun x6 => optB A3 fun a7 => req (decide (0 ≤ x6 ∧ x6 < (n3 : Int))) <| ldI w1 ((a7.add (x6.toNat * 13)).add 4) .i64 fun x8 => ldS w1 aa0 fun A9 n9 c9 => optB A9 fun a10 => req (decide (0 ≤ xa1 ∧ xa1 < (n9 : Int))) <| ldI w1 ((a10.add (xa1.toNat * 13)).add 2) .i64 fun x11 => ∃ k32, l0 k32 aa0 xa1 x8 x11 w1 (fun x30 w31 => ∀ _ : Fr, Q (.returned (.int .i64 x30)) w31)
def D : Nat → Option DH := dtab [(1, .simple [.fst 0, .fst 1, .fst 2, .fst 3, .fst 4, .fst 5, .fst 6, .fst 7, .fst 8, .fst 9, .fst 10, .fst 11, .fst 12, .fst 13, .fst 14] [.fst 15]), (6, .simple [.fst 0, .fst 1, .fst 2, .fst 3, .fst 4, .fst 5, .fst 6, .fst 7, .fst 8, .fst 9, .fst 10, .fst 11, .fst 12, .fst 13, .fst 14, .fst 15, .fst 16] [.fst 17, .fst 18])]
def j1LO : LO := ⟨[0, 1, 5, 6], [], [], []⟩
def j1T : Spec := fun Q σ w => gAd (σ 0) fun at0 => gInt .i64 (σ 1) fun xt1 => j1 at0 xt1 w (fun xq6 w => ∀ d : Fr, Q .normal (ov d [(0, .pointer (some at0)), (1, .int .i64 xt1), (5, σ 5), (6, .int .i64 xq6)]) w)
def j1tb : List (List Nat × Spec) := []
noncomputable def j1b : Code := (subC [1, 1, 0, 0, 1, 0, 1, 1] body).getD .skip
theorem j1_eq (at0 : Addr) (xt1 : Int) (Q : PQ) (σ : Fr) (w : World) : j1 at0 xt1 w (fun xq6 w => ∀ d : Fr, Q .normal (ov d [(0, .pointer (some at0)), (1, .int .i64 xt1), (5, σ 5), (6, .int .i64 xq6)]) w) = codeW Try.prog hT 70 D (tab j1tb) [1, 1, 0, 0, 1, 0, 1, 1] j1b (widen j1LO Q) (ov σ [(0, .pointer (some at0)), (1, .int .i64 xt1)]) w := by kernel_rfl
theorem j1_snd : ∀ c, subC [1, 1, 0, 0, 1, 0, 1, 1] body = some c → Snd Try.prog 70 c j1T := by
 refine cut_of (hT := hT) (D := D) (l := j1tb) (b := j1b) (lo := j1LO) (by kernel_rfl) (by
  intro x hx
  simp only [j1tb, List.not_mem_nil] at hx
  ) (by kernel_rfl) (by kernel_rfl) ?_
 intro Q σ w h
 unfold j1T at h
 obtain ⟨at0, h0, h⟩ := gAd_elim h
 obtain ⟨xt1, h1, h⟩ := gInt_elim h
 rw [j1_eq (σ := σ)] at h
 have e : (ov σ [(0, .pointer (some at0)), (1, .int .i64 xt1)]) = σ := ov_self (by simp [h0, h1])
 rw [e] at h
 exact h
def l0LO : LO := ⟨[], [], [(0, [5])], []⟩
def l0Tk (k : Nat) : Spec := fun Q σ w => gAd (σ 0) fun at0 => gInt .i64 (σ 1) fun xt1 => gInt .i64 (σ 5) fun xt5 => gInt .i64 (σ 6) fun xt6 => l0 k at0 xt1 xt5 xt6 w (fun xq5 w => ∀ d : Fr, Q (.exit 0) (ov d [(5, .int .i64 xq5)]) w)
def l0T : Spec := fun Q σ w => ∃ k, l0Tk k Q σ w
def l0tb : List (List Nat × Spec) := [([1, 1, 0, 0, 1, 0, 1, 1], j1T)]
noncomputable def l0b : Code := (subC [0, 0, 1, 0, 1, 1] body).getD .skip
theorem l0_eq (k : Nat) (at0 : Addr) (xt1 xt5 xt6 : Int) (Q : PQ) (σ : Fr) (w : World) : l0 (k + 1) at0 xt1 xt5 xt6 w (fun xq5 w => ∀ d : Fr, Q (.exit 0) (ov d [(5, .int .i64 xq5)]) w) = codeW Try.prog hT 70 D (tab l0tb) [0, 0, 1, 0, 1, 1] l0b (thenQ (l0Tk k Q) (widen l0LO Q)) (ov σ [(0, .pointer (some at0)), (1, .int .i64 xt1), (5, .int .i64 xt5), (6, .int .i64 xt6)]) w := by kernel_rfl
theorem l0_snd : ∀ c, subC [0, 1, 0, 1, 1] body = some c → Snd Try.prog 70 c l0T := by
 refine loop_of (hT := hT) (D := D) (l := l0tb) (b := l0b) (lo := l0LO) (by kernel_rfl) (by
  intro x hx
  simp only [l0tb, List.mem_cons, List.not_mem_nil, or_false] at hx
  subst hx
  exact j1_snd) (by kernel_rfl) (by kernel_rfl) ?_ ?_
 ·intro Q σ w h
  unfold l0Tk at h
  obtain ⟨_, _, h⟩ := gAd_elim h
  obtain ⟨_, _, h⟩ := gInt_elim h
  obtain ⟨_, _, h⟩ := gInt_elim h
  obtain ⟨_, _, h⟩ := gInt_elim h
  exact h
 ·intro k Q σ w h
  unfold l0Tk at h
  obtain ⟨at0, h0, h⟩ := gAd_elim h
  obtain ⟨xt1, h1, h⟩ := gInt_elim h
  obtain ⟨xt5, h5, h⟩ := gInt_elim h
  obtain ⟨xt6, h6, h⟩ := gInt_elim h
  rw [l0_eq (σ := σ)] at h
  have e : (ov σ [(0, .pointer (some at0)), (1, .int .i64 xt1), (5, .int .i64 xt5), (6, .int .i64 xt6)]) = σ := ov_self (by simp [h0, h1, h5, h6])
  rw [e] at h
  exact h
def tb : List (List Nat × Spec) := [([1, 1, 0, 0, 1, 0, 1, 1], j1T), ([0, 1, 0, 1, 1], l0T)]
variable (aa0 : Addr) (xa1 : Int) (w : World) (Q : Ending → World → Prop)
theorem wp_eq : wp aa0 xa1 w Q = codeW Try.prog hT 70 D (tab tb) [] body (topQ Try.prog hT 70 [.tmp 4] Q) (argsF [.pointer (some aa0), .int .i64 xa1]) w := by kernel_rfl
theorem ok (h : wp aa0 xa1 w Q) : Calls Try.prog 67 #[.pointer (some aa0), .int .i64 xa1] w Q := by
 rw [wp_eq] at h
 refine calls_of_codeW (c := body) (rs := [.tmp 4]) Try.func67 ?_ ?_ ?_ ?_ ?_ (tab_snd (by
  intro x hx
  simp only [tb, List.mem_cons, List.not_mem_nil, or_false] at hx
  rcases hx with rfl | rfl
  ·exact j1_snd
  ·exact l0_snd)) ?_ h <;> kernel_rfl
end f_span_reach_index
namespace f_span_reach_chance
noncomputable def body : Code := (Try.f77.body).getD .skip
def j0 (at0 : Addr) (xt3 : Int) (w : World) (Kr : Int → World → Prop) : Prop := ldI w (at0.add 2) .u64 fun x8 => stW w (at0.add 2) (.int .u64 (IntKind.u64.wrap ((bxor .u64 x8 (IntKind.u64.wrap xt3)) * 15074714826142052245))) fun w9 => drW w9 fun w10 => ldI w10 (at0.add 2) .u64 fun x12 => ldI w10 (at0.add 2) .u64 fun x13 => stW w10 (at0.add 2) (.int .u64 (bxor .u64 x12 (x13.fdiv (2 ^ 29)))) fun w14 => ldI w14 (at0.add 2) .u64 fun x15 => Kr x15 w14
def wp (aa0 : Addr) (w : World) (Q : Ending → World → Prop) : Prop := ldS w (aa0.add 1) fun A1 n1 c1 => sel (decide ((n1 : Int) > 0)) (drW w fun w2 => ldS w2 (aa0.add 1) fun A4 n4 c4 => ldS w2 aa0 fun A5 n5 c5 => req (!decide ((n1 : Int) = 0)) <| optB A4 fun a6 => req (decide (0 ≤ ((IntKind.i64.wrap ((n5 : Int) - 1)).tmod (n1 : Int)) ∧ ((IntKind.i64.wrap ((n5 : Int) - 1)).tmod (n1 : Int)) < (n4 : Int))) <| ldI w2 (a6.add (((IntKind.i64.wrap ((n5 : Int) - 1)).tmod (n1 : Int)).toNat * 1)) .i64 fun x7 => j0 aa0 x7 w2 (fun x16 w17 => ∀ _ : Fr, Q (.returned (.int .u64 x16)) w17)) (j0 aa0 0 w (fun x18 w19 => ∀ _ : Fr, Q (.returned (.int .u64 x18)) w19))
def D : Nat → Option DH := dtab [(4, .simple [.fst 0, .fst 1, .fst 2, .fst 3, .fst 4, .fst 5, .fst 6, .fst 7, .fst 8, .fst 9, .fst 10, .fst 11, .fst 12, .fst 13] [.fst 14]), (6, .simple [.fst 0, .fst 1, .fst 2, .fst 3, .fst 4, .fst 5, .fst 6, .fst 7, .fst 8] [.fst 9, .fst 10, .fst 11, .eff 12])]
def j0LO : LO := ⟨[], [2], [], []⟩
def j0T : Spec := fun Q σ w => gAd (σ 0) fun at0 => gInt .i64 (σ 3) fun xt3 => j0 at0 xt3 w (fun xq2 w => ∀ d : Fr, Q .ret (ov d [(2, .int .u64 xq2)]) w)
def j0tb : List (List Nat × Spec) := []
noncomputable def j0b : Code := (subC [1, 1, 1] body).getD .skip
theorem j0_eq (at0 : Addr) (xt3 : Int) (Q : PQ) (σ : Fr) (w : World) : j0 at0 xt3 w (fun xq2 w => ∀ d : Fr, Q .ret (ov d [(2, .int .u64 xq2)]) w) = codeW Try.prog hT 53 D (tab j0tb) [1, 1, 1] j0b (widen j0LO Q) (ov σ [(0, .pointer (some at0)), (3, .int .i64 xt3)]) w := by kernel_rfl
theorem j0_snd : ∀ c, subC [1, 1, 1] body = some c → Snd Try.prog 53 c j0T := by
 refine cut_of (hT := hT) (D := D) (l := j0tb) (b := j0b) (lo := j0LO) (by kernel_rfl) (by
  intro x hx
  simp only [j0tb, List.not_mem_nil] at hx
  ) (by kernel_rfl) (by kernel_rfl) ?_
 intro Q σ w h
 unfold j0T at h
 obtain ⟨at0, h0, h⟩ := gAd_elim h
 obtain ⟨xt3, h3, h⟩ := gInt_elim h
 rw [j0_eq (σ := σ)] at h
 have e : (ov σ [(0, .pointer (some at0)), (3, .int .i64 xt3)]) = σ := ov_self (by simp [h0, h3])
 rw [e] at h
 exact h
def tb : List (List Nat × Spec) := [([1, 1, 1], j0T)]
variable (aa0 : Addr) (w : World) (Q : Ending → World → Prop)
theorem wp_eq : wp aa0 w Q = codeW Try.prog hT 53 D (tab tb) [] body (topQ Try.prog hT 53 [.tmp 2] Q) (argsF [.pointer (some aa0)]) w := by kernel_rfl
theorem ok (h : wp aa0 w Q) : Calls Try.prog 77 #[.pointer (some aa0)] w Q := by
 rw [wp_eq] at h
 refine calls_of_codeW (c := body) (rs := [.tmp 2]) Try.func77 ?_ ?_ ?_ ?_ ?_ (tab_snd (by
  intro x hx
  simp only [tb, List.mem_cons, List.not_mem_nil, or_false] at hx
  subst hx
  exact j0_snd)) ?_ h <;> kernel_rfl
end f_span_reach_chance
namespace f_span_reach
noncomputable def body : Code := (Try.f23.body).getD .skip
def od1 : OD := ⟨[0], [0, 1, 3, 5], fun i => ([⟨true, [], [], fun _ _ => undef⟩,
 ⟨true, [], [], fun _ _ => undef⟩,
 ⟨false, [], [], fun ps vs => match ps, vs with | [.slice Ap0 np0 cp0], [] => .slice Ap0 np0 cp0 | _, _ => undef⟩,
 ⟨true, [1], [1, 2], fun _ _ => undef⟩,
 ⟨false, [0, 1, 3], [0, 3], fun ps vs => match ps, vs with | [.slice Ap0 np0 cp0], [.slice Ae0 ne0 ce0, .slice Ae1 ne1 ce1, .slice Ae3 ne3 ce3] => .agg #[.slice Ae0 ne0 ce0, .slice Ae3 ne3 ce3, .int .u64 11400714819323198485] | _, _ => undef⟩,
 ⟨true, [0, 1, 3], [4], fun _ _ => undef⟩,
 ⟨false, [0, 1, 3, 5], [5], fun ps vs => match ps, vs with | [.slice Ap0 np0 cp0], [.slice Ae0 ne0 ce0, .slice Ae1 ne1 ce1, .slice Ae3 ne3 ce3, .pointer (some ae5)] => .pointer (some ae5) | _, _ => undef⟩] : List OI).getD i ⟨true, [], [], fun _ _ => undef⟩, fun i => ([(.one (.sc .slice)), (.one (.sc .slice)), .one (.sc .any), (.one (.sc .slice)), .one (.sc .any), (.one (.sc .ad)), .one (.sc .any)] : List OS).getD i (.one (.sc .any))⟩
def h1 (Ap0 : Option Addr) (np0 cp0 : Nat) : Prop := (∀ (_ : Fr) (w : World), w = w ∧ (.slice Ap0 np0 cp0 : Value) = (.slice Ap0 np0 cp0)) ∧ (∀ (_ : Fr) (w : World), ∀ (Ae0 : Option Addr) (ne0 ce0 : Nat), ∀ (Ae1 : Option Addr) (ne1 ce1 : Nat), ∀ (Ae3 : Option Addr) (ne3 ce3 : Nat), w = w ∧ (.agg #[.slice Ae0 ne0 ce0, .slice Ae3 ne3 ce3, .int .u64 11400714819323198485] : Value) = (.agg #[.slice Ae0 ne0 ce0, .slice Ae3 ne3 ce3, .int .u64 11400714819323198485])) ∧ (∀ (_ : Fr) (w : World), ∀ (Ae0 : Option Addr) (ne0 ce0 : Nat), ∀ (Ae1 : Option Addr) (ne1 ce1 : Nat), ∀ (Ae3 : Option Addr) (ne3 ce3 : Nat), ∀ (ae5 : Addr), w = w ∧ (.pointer (some ae5) : Value) = (.pointer (some ae5))) ∧ True
theorem h1_ok (Ap0 : Option Addr) (np0 cp0 : Nat) : h1 Ap0 np0 cp0 := ⟨fun _ w => ⟨rfl, rfl⟩, fun _ w _ _ _ _ _ _ _ _ _ => ⟨rfl, rfl⟩, fun _ w _ _ _ _ _ _ _ _ _ _ => ⟨rfl, rfl⟩, trivial⟩
def wp (Aa0 : Option Addr) (na0 ca0 : Nat) (w : World) (Q : Ending → World → Prop) : Prop := drW w fun w1 => h1 Aa0 na0 ca0 ∧ ∃ (G2 : World → World → Prop) (Φ3 : Nat → Value → World → Prop), (∀ w, G2 w w) ∧ (∀ a b c, G2 a b → G2 b c → G2 a c) ∧ (∀ i v a b, G2 w1 a → G2 a b → Φ3 i v a → Φ3 i v b) ∧ ((∀ (_ : Fr) (w4 : World), G2 w1 w4 → (Runs Try.prog (Instr.makeSlice 92 (.int .i64 1) (.int .i64 1)) w4 fun v6 w5 => ∃ A7 n7 c7, v6 = (.slice A7 n7 c7) ∧ (G2 w4 w5 ∧ Φ3 0 (.slice A7 n7 c7) w5))) ∧ (∀ (_ : Fr) (w8 : World), G2 w1 w8 → (alW w8 (.cells #[] 3) fun B9 w10 => G2 w8 w10 ∧ Φ3 1 (.slice (some ⟨B9, 0, none⟩) 0 0) w10)) ∧ (∀ (_ : Fr) (w11 : World), G2 w1 w11 → ∀ (Ae1 : Option Addr) (ne1 ce1 : Nat), Φ3 1 (.slice Ae1 ne1 ce1) w11 → (Runs Try.prog (Builtin.append_ #[22, 22] 22 #[.slice Ae1 ne1 ce1, .slice Aa0 na0 ca0]) w11 fun v13 w12 => ∃ A14 n14 c14, v13 = (.slice A14 n14 c14) ∧ (G2 w11 w12 ∧ Φ3 3 (.slice A14 n14 c14) w12))) ∧ (∀ (_ : Fr) (w15 : World), G2 w1 w15 → ∀ (Ae0 : Option Addr) (ne0 ce0 : Nat), Φ3 0 (.slice Ae0 ne0 ce0) w15 → ∀ (Ae1 : Option Addr) (ne1 ce1 : Nat), Φ3 1 (.slice Ae1 ne1 ce1) w15 → ∀ (Ae3 : Option Addr) (ne3 ce3 : Nat), Φ3 3 (.slice Ae3 ne3 ce3) w15 → (alW w15 (.cells #[.slice Ae0 ne0 ce0, .slice Ae3 ne3 ce3, .int .u64 11400714819323198485] 95) fun B16 w17 => G2 w15 w17 ∧ Φ3 5 (.pointer (some ⟨B16, 0, none⟩)) w17)) ∧ True) ∧ ∀ w18, G2 w1 w18 → ∀ (Ae0 : Option Addr) (ne0 ce0 : Nat), Φ3 0 (.slice Ae0 ne0 ce0) w18 → ∀ (Ae1 : Option Addr) (ne1 ce1 : Nat), Φ3 1 (.slice Ae1 ne1 ce1) w18 → ∀ (Ae3 : Option Addr) (ne3 ce3 : Nat), Φ3 3 (.slice Ae3 ne3 ce3) w18 → ∀ (ae5 : Addr), Φ3 5 (.pointer (some ae5)) w18 → (Q (.returned (.pointer (some ae5))) w18)
def D : Nat → Option DH := dtab [(1, .opn od1)]
def tb : List (List Nat × Spec) := []
variable (Aa0 : Option Addr) (na0 ca0 : Nat) (w : World) (Q : Ending → World → Prop)
theorem wp_eq : wp Aa0 na0 ca0 w Q = codeW Try.prog hT 9 D (tab tb) [] body (topQ Try.prog hT 9 [.tmp 2] Q) (argsF [.slice Aa0 na0 ca0]) w := by kernel_rfl
theorem ok (h : wp Aa0 na0 ca0 w Q) : Calls Try.prog 23 #[.slice Aa0 na0 ca0] w Q := by
 rw [wp_eq] at h
 refine calls_of_codeW (c := body) (rs := [.tmp 2]) Try.func23 ?_ ?_ ?_ ?_ ?_ (tab_snd (by
  intro x hx
  simp only [tb, List.not_mem_nil] at hx
  )) ?_ h <;> kernel_rfl
end f_span_reach
namespace f_span_reach_Join
noncomputable def body : Code := (Try.f36.body).getD .skip
def wp (aa0 : Addr) (xa1 xa2 : Int) (w : World) (Q : Ending → World → Prop) : Prop := alW w (.cells #[.int .i64 xa1, .int .i64 xa2] 3) fun B1 w2 => Calls Try.prog 61 #[.pointer (some aa0), .slice (some ⟨B1, 0, none⟩) 2 2] w2 fun e3 w4 => ∃ b5, e3 = .returned (.bool b5) ∧ (sel b5 (Q (.returned (.int .i64 150)) w4) (Calls Try.prog 62 #[.pointer (some aa0), .int .i64 xa1] w4 fun e6 w7 => ∃ x8, e6 = .returned (.int .i64 x8) ∧ (Calls Try.prog 62 #[.pointer (some aa0), .int .i64 xa2] w7 fun e9 w10 => ∃ x11, e9 = .returned (.int .i64 x11) ∧ (sel (x8 == x11) (Q (.returned (.int .i64 151)) w10) (Calls Try.prog 64 #[.pointer (some aa0), .int .i64 x8, .int .i64 x11] w10 fun e12 w13 => ∃ x14, e12 = .returned (.int .i64 x14) ∧ (Calls Try.prog 63 #[.pointer (some aa0), .int .i64 x14] w13 fun e15 w16 => e15 = .returned (.tuple #[]) ∧ (Q (.returned (.int .i64 0)) w16)))))))
def D : Nat → Option DH := dtab []
def tb : List (List Nat × Spec) := []
variable (aa0 : Addr) (xa1 xa2 : Int) (w : World) (Q : Ending → World → Prop)
theorem wp_eq : wp aa0 xa1 xa2 w Q = codeW Try.prog hT 29 D (tab tb) [] body (topQ Try.prog hT 29 [.tmp 6] Q) (argsF [.pointer (some aa0), .int .i64 xa1, .int .i64 xa2]) w := by kernel_rfl
theorem ok (h : wp aa0 xa1 xa2 w Q) : Calls Try.prog 36 #[.pointer (some aa0), .int .i64 xa1, .int .i64 xa2] w Q := by
 rw [wp_eq] at h
 refine calls_of_codeW (c := body) (rs := [.tmp 6]) Try.func36 ?_ ?_ ?_ ?_ ?_ (tab_snd (by
  intro x hx
  simp only [tb, List.not_mem_nil] at hx
  )) ?_ h <;> kernel_rfl
end f_span_reach_Join
namespace f_span_reach_Cut
noncomputable def body : Code := (Try.f38.body).getD .skip
def wp (aa0 : Addr) (xa1 : Int) (w : World) (Q : Ending → World → Prop) : Prop := alW w (.cells #[.int .i64 xa1] 3) fun B1 w2 => Calls Try.prog 61 #[.pointer (some aa0), .slice (some ⟨B1, 0, none⟩) 1 1] w2 fun e3 w4 => ∃ b5, e3 = .returned (.bool b5) ∧ (sel b5 (Q (.returned (.int .i64 150)) w4) (Calls Try.prog 62 #[.pointer (some aa0), .int .i64 xa1] w4 fun e6 w7 => ∃ x8, e6 = .returned (.int .i64 x8) ∧ (Calls Try.prog 67 #[.pointer (some aa0), .int .i64 xa1] w7 fun e9 w10 => ∃ x11, e9 = .returned (.int .i64 x11) ∧ (Calls Try.prog 66 #[.pointer (some aa0), .int .i64 x8, .int .i64 x11] w10 fun e12 w13 => ∃ x14_0 x14_1, e12 = .returned (.tuple #[.int .i64 x14_0, .int .i64 x14_1]) ∧ (Calls Try.prog 63 #[.pointer (some aa0), .int .i64 x14_0] w13 fun e15 w16 => e15 = .returned (.tuple #[]) ∧ (Calls Try.prog 63 #[.pointer (some aa0), .int .i64 x14_1] w16 fun e17 w18 => e17 = .returned (.tuple #[]) ∧ (Q (.returned (.int .i64 0)) w18)))))))
def D : Nat → Option DH := dtab []
def tb : List (List Nat × Spec) := []
variable (aa0 : Addr) (xa1 : Int) (w : World) (Q : Ending → World → Prop)
theorem wp_eq : wp aa0 xa1 w Q = codeW Try.prog hT 28 D (tab tb) [] body (topQ Try.prog hT 28 [.tmp 4] Q) (argsF [.pointer (some aa0), .int .i64 xa1]) w := by kernel_rfl
theorem ok (h : wp aa0 xa1 w Q) : Calls Try.prog 38 #[.pointer (some aa0), .int .i64 xa1] w Q := by
 rw [wp_eq] at h
 refine calls_of_codeW (c := body) (rs := [.tmp 4]) Try.func38 ?_ ?_ ?_ ?_ ?_ (tab_snd (by
  intro x hx
  simp only [tb, List.not_mem_nil] at hx
  )) ?_ h <;> kernel_rfl
end f_span_reach_Cut
namespace f_span_reach_At
noncomputable def body : Code := (Try.f39.body).getD .skip
def j1 (at0 : Addr) (xt2 xt8 : Int) (w : World) (Kg0 : Int → Int → World → Prop) (Kr : Int → Int → World → Prop) : Prop := drW w fun w12 => ldS w12 at0 fun A14 n14 c14 => ldS w12 at0 fun A15 n15 c15 => optB A15 fun a16 => req (decide (0 ≤ xt8 ∧ xt8 < (n15 : Int))) <| ldI w12 (a16.add (xt8.toNat * 13)) .i64 fun x17 => optB A14 fun a18 => req (decide (0 ≤ x17 ∧ x17 < (n14 : Int))) <| ldI w12 ((a18.add (x17.toNat * 13)).add 4) .i64 fun x19 => sel (decide (xt2 < x19)) (ldS w12 at0 fun A20 n20 c20 => optB A20 fun a21 => req (decide (0 ≤ xt8 ∧ xt8 < (n20 : Int))) <| ldI w12 (a21.add (xt8.toNat * 13)) .i64 fun x22 => Kg0 xt2 x22 w12) (sel (decide (xt2 > x19)) (ldS w12 at0 fun A23 n23 c23 => optB A23 fun a24 => req (decide (0 ≤ xt8 ∧ xt8 < (n23 : Int))) <| ldI w12 ((a24.add (xt8.toNat * 13)).add 1) .i64 fun x25 => Kg0 (IntKind.i64.wrap ((IntKind.i64.wrap (xt2 - x19)) - 1)) x25 w12) (Kr xt8 0 w12))
def g0 : Nat → Addr → Int → Int → World → (Int → Int → World → Prop) → Prop | 0, _, _, _, _, _ => False | k + 1, at0, xt2, xt8, w, Kr => j1 at0 xt2 xt8 w (fun xr2 xr8 w => ∀ _ : Fr, g0 k at0 xr2 xr8 w Kr) Kr
def s0 (at0 : Addr) (xt1 xt2 : Int) (w : World) (Kr : Int → Int → World → Prop) : Prop := alW w (.cells #[.int .i64 xt1] 3) fun B1 w2 => Calls Try.prog 61 #[.pointer (some at0), .slice (some ⟨B1, 0, none⟩) 1 1] w2 fun e3 w4 => ∃ b5, e3 = .returned (.bool b5) ∧ (sel b5 (Kr 0 150 w4) (Calls Try.prog 62 #[.pointer (some at0), .int .i64 xt1] w4 fun e6 w7 => ∃ x8, e6 = .returned (.int .i64 x8) ∧ (sel (decide (xt2 < 0)) (Kr 0 1 w7) (ldS w7 at0 fun A9 n9 c9 => optB A9 fun a10 => req (decide (0 ≤ x8 ∧ x8 < (n9 : Int))) <| ldI w7 ((a10.add (x8.toNat * 13)).add 4) .i64 fun x11 => sel (decide (xt2 ≥ x11)) (Kr 0 1 w7) (j1 at0 xt2 x8 w7 (fun x26 x27 w28 => ∀ _ : Fr, ∃ k29, g0 k29 at0 x26 x27 w28 Kr) (fun x30 x31 w32 => ∀ _ : Fr, Kr x30 x31 w32))))))
def wp (aa0 : Addr) (xa1 xa2 : Int) (w : World) (Q : Ending → World → Prop) : Prop := s0 aa0 xa1 xa2 w (fun x33 x34 w35 => ∀ _ : Fr, Q (.returned (.tuple #[.int .i64 x33, .int .i64 x34])) w35)
def D : Nat → Option DH := dtab [(6, .simple [.fst 0, .fst 1, .fst 2, .fst 3, .fst 4, .fst 5, .fst 6, .fst 7, .fst 8, .fst 9, .fst 10, .fst 11, .fst 12, .fst 13, .fst 14] [.fst 15])]
def j1LO : LO := ⟨[], [6, 7], [], [(0, [0, 2, 8])]⟩
def j1T : Spec := fun Q σ w => gAd (σ 0) fun at0 => gInt .i64 (σ 2) fun xt2 => gInt .i64 (σ 8) fun xt8 => j1 at0 xt2 xt8 w (fun xq2 xq8 w => ∀ d : Fr, Q (.goto 0) (ov d [(0, .pointer (some at0)), (2, .int .i64 xq2), (8, .int .i64 xq8)]) w) (fun xq6 xq7 w => ∀ d : Fr, Q .ret (ov d [(6, .int .i64 xq6), (7, .int .i64 xq7)]) w)
def j1tb : List (List Nat × Spec) := []
noncomputable def j1b : Code := (subC [1, 1, 1, 1, 0, 1] body).getD .skip
theorem j1_eq (at0 : Addr) (xt2 xt8 : Int) (Q : PQ) (σ : Fr) (w : World) : j1 at0 xt2 xt8 w (fun xq2 xq8 w => ∀ d : Fr, Q (.goto 0) (ov d [(0, .pointer (some at0)), (2, .int .i64 xq2), (8, .int .i64 xq8)]) w) (fun xq6 xq7 w => ∀ d : Fr, Q .ret (ov d [(6, .int .i64 xq6), (7, .int .i64 xq7)]) w) = codeW Try.prog hT 73 D (tab j1tb) [1, 1, 1, 1, 0, 1] j1b (widen j1LO Q) (ov σ [(0, .pointer (some at0)), (2, .int .i64 xt2), (8, .int .i64 xt8)]) w := by kernel_rfl
theorem j1_snd : ∀ c, subC [1, 1, 1, 1, 0, 1] body = some c → Snd Try.prog 73 c j1T := by
 refine cut_of (hT := hT) (D := D) (l := j1tb) (b := j1b) (lo := j1LO) (by kernel_rfl) (by
  intro x hx
  simp only [j1tb, List.not_mem_nil] at hx
  ) (by kernel_rfl) (by kernel_rfl) ?_
 intro Q σ w h
 unfold j1T at h
 obtain ⟨at0, h0, h⟩ := gAd_elim h
 obtain ⟨xt2, h2, h⟩ := gInt_elim h
 obtain ⟨xt8, h8, h⟩ := gInt_elim h
 rw [j1_eq (σ := σ)] at h
 have e : (ov σ [(0, .pointer (some at0)), (2, .int .i64 xt2), (8, .int .i64 xt8)]) = σ := ov_self (by simp [h0, h2, h8])
 rw [e] at h
 exact h
def s0LO : LO := ⟨[], [6, 7], [], []⟩
def s0T : Spec := fun Q σ w => gAd (σ 0) fun at0 => gInt .i64 (σ 1) fun xt1 => gInt .i64 (σ 2) fun xt2 => s0 at0 xt1 xt2 w (fun xq6 xq7 w => ∀ d : Fr, Q .ret (ov d [(6, .int .i64 xq6), (7, .int .i64 xq7)]) w)
def s0tb : List (List Nat × Spec) := [([1, 1, 1, 1, 0, 1], j1T)]
def g0Tk (k : Nat) : Spec := fun Q σ w => gAd (σ 0) fun at0 => gInt .i64 (σ 2) fun xt2 => gInt .i64 (σ 8) fun xt8 => g0 k at0 xt2 xt8 w (fun xq6 xq7 w => ∀ d : Fr, Q .ret (ov d [(6, .int .i64 xq6), (7, .int .i64 xq7)]) w)
theorem g0_eq (k : Nat) (at0 : Addr) (xt2 xt8 : Int) (Q : PQ) (σ : Fr) (w : World) :
  g0 (k + 1) at0 xt2 xt8 w (fun xq6 xq7 w => ∀ d : Fr, Q .ret (ov d [(6, .int .i64 xq6), (7, .int .i64 xq7)]) w) = j1T (gotoQ 0 (g0Tk k Q) Q) (ov σ [(0, .pointer (some at0)), (2, .int .i64 xt2), (8, .int .i64 xt8)]) w := by kernel_rfl
noncomputable def s0b : Code := (subC [0, 1] body).getD .skip
theorem s0_eq (at0 : Addr) (xt1 xt2 : Int) (Q : PQ) (σ : Fr) (w : World) : s0 at0 xt1 xt2 w (fun xq6 xq7 w => ∀ d : Fr, Q .ret (ov d [(6, .int .i64 xq6), (7, .int .i64 xq7)]) w) = codeW Try.prog hT 73 D (tab s0tb) [0, 1] s0b (gotoQ 0 (fun σ w => ∃ k, g0Tk k Q σ w) (widen s0LO Q)) (ov σ [(0, .pointer (some at0)), (1, .int .i64 xt1), (2, .int .i64 xt2)]) w := by kernel_rfl
theorem s0_snd : ∀ c, subC [1] body = some c → Snd Try.prog 73 c s0T := by
 refine scope_of (hT := hT) (D := D) (l := s0tb) (b := s0b) (b' := j1b) (pb := [1, 1, 1, 1, 0, 1]) (lb := 0) (Tk := g0Tk) (Tb := j1T) (lo := s0LO) (by kernel_rfl) (by
  intro x hx
  simp only [s0tb, List.mem_cons, List.not_mem_nil, or_false] at hx
  subst hx
  exact j1_snd) (by kernel_rfl) (by kernel_rfl) (by kernel_rfl) (by kernel_rfl) j1_snd ?_ ?_ ?_
 ·intro Q σ w h
  unfold g0Tk at h
  obtain ⟨_, _, h⟩ := gAd_elim h
  obtain ⟨_, _, h⟩ := gInt_elim h
  obtain ⟨_, _, h⟩ := gInt_elim h
  exact h
 ·intro k Q σ w h
  unfold g0Tk at h
  obtain ⟨at0, h0, h⟩ := gAd_elim h
  obtain ⟨xt2, h2, h⟩ := gInt_elim h
  obtain ⟨xt8, h8, h⟩ := gInt_elim h
  rw [g0_eq (σ := σ)] at h
  have e : (ov σ [(0, .pointer (some at0)), (2, .int .i64 xt2), (8, .int .i64 xt8)]) = σ := ov_self (by simp [h0, h2, h8])
  rw [e] at h
  exact h
 ·intro Q σ w h
  unfold s0T at h
  obtain ⟨at0, h0, h⟩ := gAd_elim h
  obtain ⟨xt1, h1, h⟩ := gInt_elim h
  obtain ⟨xt2, h2, h⟩ := gInt_elim h
  rw [s0_eq (σ := σ)] at h
  have e : (ov σ [(0, .pointer (some at0)), (1, .int .i64 xt1), (2, .int .i64 xt2)]) = σ := ov_self (by simp [h0, h1, h2])
  rw [e] at h
  exact h
def tb : List (List Nat × Spec) := [([1, 1, 1, 1, 0, 1], j1T), ([1], s0T)]
variable (aa0 : Addr) (xa1 xa2 : Int) (w : World) (Q : Ending → World → Prop)
theorem wp_eq : wp aa0 xa1 xa2 w Q = codeW Try.prog hT 73 D (tab tb) [] body (topQ Try.prog hT 73 [.tmp 6, .tmp 7] Q) (argsF [.pointer (some aa0), .int .i64 xa1, .int .i64 xa2]) w := by kernel_rfl
theorem ok (h : wp aa0 xa1 xa2 w Q) : Calls Try.prog 39 #[.pointer (some aa0), .int .i64 xa1, .int .i64 xa2] w Q := by
 rw [wp_eq] at h
 refine calls_of_codeW (c := body) (rs := [.tmp 6, .tmp 7]) Try.func39 ?_ ?_ ?_ ?_ ?_ (tab_snd (by
  intro x hx
  simp only [tb, List.mem_cons, List.not_mem_nil, or_false] at hx
  rcases hx with rfl | rfl
  ·exact j1_snd
  ·exact s0_snd)) ?_ h <;> kernel_rfl
end f_span_reach_At
namespace f_span_reach_All
noncomputable def body : Code := (Try.f52.body).getD .skip
def wp (aa0 : Addr) (xa1 : Int) (w : World) (Q : Ending → World → Prop) : Prop := alW w (.cells #[.pointer none, .int .i64 0, .int .i64 0, .int .i64 0] 60) fun B1 w2 => alW w2 (.cells #[.int .i64 xa1] 3) fun B3 w4 => Calls Try.prog 61 #[.pointer (some aa0), .slice (some ⟨B3, 0, none⟩) 1 1] w4 fun e5 w6 => ∃ b7, e5 = .returned (.bool b7) ∧ (sel b7 (ldP w6 ⟨B1, 0, none⟩ fun p8 => ldI w6 (.add ⟨B1, 0, none⟩ 1) .i64 fun x9 => ldI w6 (.add ⟨B1, 0, none⟩ 2) .i64 fun x10 => ldI w6 (.add ⟨B1, 0, none⟩ 3) .i64 fun x11 => stW w6 ⟨B1, 0, none⟩ (.pointer p8) fun w12 => stW w12 (.add ⟨B1, 0, none⟩ 1) (.int .i64 x9) fun w13 => stW w13 (.add ⟨B1, 0, none⟩ 2) (.int .i64 x10) fun w14 => stW w14 (.add ⟨B1, 0, none⟩ 3) (.int .i64 x11) fun w15 => ldP w15 ⟨B1, 0, none⟩ fun p16 => ldI w15 (.add ⟨B1, 0, none⟩ 1) .i64 fun x17 => ldI w15 (.add ⟨B1, 0, none⟩ 2) .i64 fun x18 => ldI w15 (.add ⟨B1, 0, none⟩ 3) .i64 fun x19 => Q (.returned (.tuple #[.agg #[.pointer p16, .int .i64 x17, .int .i64 x18, .int .i64 x19], .int .i64 150])) w15) (drW w6 fun w20 => ∃ S21 : World → Prop, S21 w20 ∧ (hdS S21 aa0 fun A22 n22 c22 => Calls Try.prog 62 #[.pointer (some aa0), .int .i64 xa1] w20 fun e23 w24 => ∃ x25, e23 = .returned (.int .i64 x25) ∧ (S21 w24 ∧ (optB A22 fun a26 => req (decide (0 ≤ x25 ∧ x25 < (n22 : Int))) <| hdP S21 ((a26.add (x25.toNat * 13)).add 9) fun p27 => hdI S21 (((a26.add (x25.toNat * 13)).add 9).add 1) .i64 fun x28 => hdI S21 (((a26.add (x25.toNat * 13)).add 9).add 2) .i64 fun x29 => hdI S21 (((a26.add (x25.toNat * 13)).add 9).add 3) .i64 fun x30 => stW w24 ⟨B1, 0, none⟩ (.pointer p27) fun w31 => stW w31 (.add ⟨B1, 0, none⟩ 1) (.int .i64 x28) fun w32 => stW w32 (.add ⟨B1, 0, none⟩ 2) (.int .i64 x29) fun w33 => stW w33 (.add ⟨B1, 0, none⟩ 3) (.int .i64 x30) fun w34 => ldP w34 ⟨B1, 0, none⟩ fun p35 => ldI w34 (.add ⟨B1, 0, none⟩ 1) .i64 fun x36 => ldI w34 (.add ⟨B1, 0, none⟩ 2) .i64 fun x37 => ldI w34 (.add ⟨B1, 0, none⟩ 3) .i64 fun x38 => Q (.returned (.tuple #[.agg #[.pointer p35, .int .i64 x36, .int .i64 x37, .int .i64 x38], .int .i64 0])) w34)))))
def D : Nat → Option DH := dtab [(3, .held [.fst 0, .fst 1, .fst 2, .fst 3, .fst 4, .fst 5, .eff 6, .fst 7, .fst 8, .fst 9] [.eff 10, .fst 11])]
def tb : List (List Nat × Spec) := []
variable (aa0 : Addr) (xa1 : Int) (w : World) (Q : Ending → World → Prop)
theorem wp_eq : wp aa0 xa1 w Q = codeW Try.prog hT 21 D (tab tb) [] body (topQ Try.prog hT 21 [.cell 4 60, .tmp 5] Q) (argsF [.pointer (some aa0), .int .i64 xa1]) w := by kernel_rfl
theorem ok (h : wp aa0 xa1 w Q) : Calls Try.prog 52 #[.pointer (some aa0), .int .i64 xa1] w Q := by
 rw [wp_eq] at h
 refine calls_of_codeW (c := body) (rs := [.cell 4 60, .tmp 5]) Try.func52 ?_ ?_ ?_ ?_ ?_ (tab_snd (by
  intro x hx
  simp only [tb, List.not_mem_nil] at hx
  )) ?_ h <;> kernel_rfl
end f_span_reach_All
namespace f_span_Forest_make
noncomputable def body : Code := (Try.f34.body).getD .skip
def wp (aa0 : Addr) (pa1_0 : Option Addr) (xa1_1 xa1_2 xa1_3 : Int) (w : World) (Q : Ending → World → Prop) : Prop := alW w (.cells #[.pointer pa1_0, .int .i64 xa1_1, .int .i64 xa1_2, .int .i64 xa1_3] 60) fun B1 w2 => ldS w2 (aa0.add 4) fun A3 n3 c3 => sel (decide ((n3 : Int) > 0)) (ldS w2 (aa0.add 4) fun A4 n4 c4 => optB A4 fun a5 => req (decide (0 ≤ (IntKind.i64.wrap ((n3 : Int) - 1)) ∧ (IntKind.i64.wrap ((n3 : Int) - 1)) < (n4 : Int))) <| ldI w2 (a5.add ((IntKind.i64.wrap ((n3 : Int) - 1)).toNat * 1)) .i64 fun x6 => ldS w2 (aa0.add 4) fun A7 n7 c7 => req (decide (0 ≤ (IntKind.i64.wrap ((n3 : Int) - 1)) ∧ (IntKind.i64.wrap ((n3 : Int) - 1)) ≤ (c7 : Int))) <| stW w2 (aa0.add 4) (.slice (slA A7 0 c7 1) ((IntKind.i64.wrap ((n3 : Int) - 1)).toNat - 0) (c7 - 0)) fun w8 => drW w8 fun w9 => ldP w9 aa0 fun p11 => ldP w9 ⟨B1, 0, none⟩ fun p12 => ldI w9 (.add ⟨B1, 0, none⟩ 1) .i64 fun x13 => ldI w9 (.add ⟨B1, 0, none⟩ 2) .i64 fun x14 => ldI w9 (.add ⟨B1, 0, none⟩ 3) .i64 fun x15 => Calls Try.prog 59 #[.pointer p11, .int .i64 x6, .agg #[.pointer p12, .int .i64 x13, .int .i64 x14, .int .i64 x15]] w9 fun e16 w17 => ∃ x18, e16 = .returned (.int .i64 x18) ∧ (Q (.returned (.int .i64 x6)) w17)) (drW w2 fun w19 => ldP w19 aa0 fun p21 => ldP w19 ⟨B1, 0, none⟩ fun p22 => ldI w19 (.add ⟨B1, 0, none⟩ 1) .i64 fun x23 => ldI w19 (.add ⟨B1, 0, none⟩ 2) .i64 fun x24 => ldI w19 (.add ⟨B1, 0, none⟩ 3) .i64 fun x25 => Calls Try.prog 60 #[.pointer p21, .agg #[.pointer p22, .int .i64 x23, .int .i64 x24, .int .i64 x25]] w19 fun e26 w27 => ∃ x28_0 x28_1, e26 = .returned (.tuple #[.int .i64 x28_0, .int .i64 x28_1]) ∧ (Q (.returned (.int .i64 x28_0)) w27))
def D : Nat → Option DH := dtab [(5, .simple [.fst 0, .fst 1, .fst 2, .fst 3, .fst 4, .fst 5] [.eff 6]), (7, .simple [.fst 0, .fst 1, .fst 2, .fst 3, .fst 4] [.eff 5, .fst 6, .fst 7, .fst 8, .fst 9, .fst 10])]
def tb : List (List Nat × Spec) := []
variable (aa0 : Addr) (pa1_0 : Option Addr) (xa1_1 xa1_2 xa1_3 : Int) (w : World) (Q : Ending → World → Prop)
theorem wp_eq : wp aa0 pa1_0 xa1_1 xa1_2 xa1_3 w Q = codeW Try.prog hT 52 D (tab tb) [] body (topQ Try.prog hT 52 [.tmp 4] Q) (argsF [.pointer (some aa0), .agg #[.pointer pa1_0, .int .i64 xa1_1, .int .i64 xa1_2, .int .i64 xa1_3]]) w := by kernel_rfl
theorem ok (h : wp aa0 pa1_0 xa1_1 xa1_2 xa1_3 w Q) : Calls Try.prog 34 #[.pointer (some aa0), .agg #[.pointer pa1_0, .int .i64 xa1_1, .int .i64 xa1_2, .int .i64 xa1_3]] w Q := by
 rw [wp_eq] at h
 refine calls_of_codeW (c := body) (rs := [.tmp 4]) Try.func34 ?_ ?_ ?_ ?_ ?_ (tab_snd (by
  intro x hx
  simp only [tb, List.not_mem_nil] at hx
  )) ?_ h <;> kernel_rfl
end f_span_Forest_make
namespace f_span_Forest_turn
noncomputable def body : Code := (Try.f35.body).getD .skip
def wp (aa0 : Addr) (xa1 : Int) (w : World) (Q : Ending → World → Prop) : Prop := ldP w aa0 fun p1 => Calls Try.prog 39 #[.pointer p1, .int .i64 xa1, .int .i64 0] w fun e2 w3 => ∃ x4_0 x4_1, e2 = .returned (.tuple #[.int .i64 x4_0, .int .i64 x4_1]) ∧ (sel (x4_0 != xa1) (ldP w3 aa0 fun p5 => Calls Try.prog 38 #[.pointer p5, .int .i64 xa1] w3 fun e6 w7 => ∃ x8, e6 = .returned (.int .i64 x8) ∧ (ldP w7 aa0 fun p9 => Calls Try.prog 36 #[.pointer p9, .int .i64 xa1, .int .i64 x4_0] w7 fun e10 w11 => ∃ x12, e10 = .returned (.int .i64 x12) ∧ (Q (.returned (.tuple #[])) w11))) (Q (.returned (.tuple #[])) w3))
def D : Nat → Option DH := dtab []
def tb : List (List Nat × Spec) := []
variable (aa0 : Addr) (xa1 : Int) (w : World) (Q : Ending → World → Prop)
theorem wp_eq : wp aa0 xa1 w Q = codeW Try.prog hT 31 D (tab tb) [] body (topQ Try.prog hT 31 [] Q) (argsF [.pointer (some aa0), .int .i64 xa1]) w := by kernel_rfl
theorem ok (h : wp aa0 xa1 w Q) : Calls Try.prog 35 #[.pointer (some aa0), .int .i64 xa1] w Q := by
 rw [wp_eq] at h
 refine calls_of_codeW (c := body) (rs := []) Try.func35 ?_ ?_ ?_ ?_ ?_ (tab_snd (by
  intro x hx
  simp only [tb, List.not_mem_nil] at hx
  )) ?_ h <;> kernel_rfl
end f_span_Forest_turn
namespace f_span_New
noncomputable def body : Code := (Try.f7.body).getD .skip
def wp (Aa0 : Option Addr) (na0 ca0 : Nat) (w : World) (Q : Ending → World → Prop) : Prop := Calls Try.prog 23 #[.slice Aa0 na0 ca0] w fun e1 w2 => ∃ p3, e1 = .returned (.pointer p3) ∧ (Calls Try.prog 24 #[] w2 fun e4 w5 => ∃ p6, e4 = .returned (.pointer p6) ∧ (alW w5 (.map #[] 0) fun B7 w8 => alW w8 (.map #[] 0) fun B9 w10 => alW w10 (.cells #[.pointer p3, .pointer p6, .map (some B7), .map (some B9), .slice none 0 0] 66) fun B11 w12 => Q (.returned (.pointer (some ⟨B11, 0, none⟩))) w12))
def D : Nat → Option DH := dtab []
def tb : List (List Nat × Spec) := []
variable (Aa0 : Option Addr) (na0 ca0 : Nat) (w : World) (Q : Ending → World → Prop)
theorem wp_eq : wp Aa0 na0 ca0 w Q = codeW Try.prog hT 10 D (tab tb) [] body (topQ Try.prog hT 10 [.tmp 2] Q) (argsF [.slice Aa0 na0 ca0]) w := by kernel_rfl
theorem ok (h : wp Aa0 na0 ca0 w Q) : Calls Try.prog 7 #[.slice Aa0 na0 ca0] w Q := by
 rw [wp_eq] at h
 refine calls_of_codeW (c := body) (rs := [.tmp 2]) Try.func7 ?_ ?_ ?_ ?_ ?_ (tab_snd (by
  intro x hx
  simp only [tb, List.not_mem_nil] at hx
  )) ?_ h <;> kernel_rfl
end f_span_New
namespace f_span_Forest_Len
noncomputable def body : Code := (Try.f10.body).getD .skip
def wp (aa0 : Addr) (w : World) (Q : Ending → World → Prop) : Prop := drW w fun w1 => ∃ S2 : World → Prop, S2 w1 ∧ (hdM S2 (aa0.add 2) fun m3 => hdM S2 (aa0.add 3) fun m4 => Runs Try.prog (Builtin.len_ #[63] 3 #[.map m3]) w1 fun v6 w5 => ∃ x7, v6 = (.int .i64 x7) ∧ (S2 w5 ∧ (Runs Try.prog (Builtin.len_ #[64] 3 #[.map m4]) w5 fun v9 w8 => ∃ x10, v9 = (.int .i64 x10) ∧ (Q (.returned (.tuple #[.int .i64 x7, .int .i64 x10])) w8))))
def D : Nat → Option DH := dtab [(1, .held [.fst 0, .fst 1, .fst 2, .fst 3, .fst 5, .fst 6, .fst 7, .fst 8, .eff 4] [.eff 9, .fst 10, .fst 11])]
def tb : List (List Nat × Spec) := []
variable (aa0 : Addr) (w : World) (Q : Ending → World → Prop)
theorem wp_eq : wp aa0 w Q = codeW Try.prog hT 14 D (tab tb) [] body (topQ Try.prog hT 14 [.tmp 2, .tmp 3] Q) (argsF [.pointer (some aa0)]) w := by kernel_rfl
theorem ok (h : wp aa0 w Q) : Calls Try.prog 10 #[.pointer (some aa0)] w Q := by
 rw [wp_eq] at h
 refine calls_of_codeW (c := body) (rs := [.tmp 2, .tmp 3]) Try.func10 ?_ ?_ ?_ ?_ ?_ (tab_snd (by
  intro x hx
  simp only [tb, List.not_mem_nil] at hx
  )) ?_ h <;> kernel_rfl
end f_span_Forest_Len
namespace f_span_Forest_Span
noncomputable def body : Code := (Try.f13.body).getD .skip
def wp (aa0 : Addr) (xa1 : Int) (w : World) (Q : Ending → World → Prop) : Prop := Calls Try.prog 31 #[.pointer (some aa0), .int .i64 xa1] w fun e1 w2 => ∃ p3_0_0 x3_0_1 x3_0_2 x3_0_3 x3_1, e1 = .returned (.tuple #[.agg #[.pointer p3_0_0, .int .i64 x3_0_1, .int .i64 x3_0_2, .int .i64 x3_0_3], .int .i64 x3_1]) ∧ (alW w2 (.cells #[.pointer none, .int .i64 0, .int .i64 0, .int .i64 0] 60) fun B4 w5 => stW w5 ⟨B4, 0, none⟩ (.pointer p3_0_0) fun w6 => stW w6 (.add ⟨B4, 0, none⟩ 1) (.int .i64 x3_0_1) fun w7 => stW w7 (.add ⟨B4, 0, none⟩ 2) (.int .i64 x3_0_2) fun w8 => stW w8 (.add ⟨B4, 0, none⟩ 3) (.int .i64 x3_0_3) fun w9 => ldI w9 (.add ⟨B4, 0, none⟩ 3) .i64 fun x10 => Q (.returned (.tuple #[.int .i64 x10, .int .i64 x3_1])) w9)
def D : Nat → Option DH := dtab []
def tb : List (List Nat × Spec) := []
variable (aa0 : Addr) (xa1 : Int) (w : World) (Q : Ending → World → Prop)
theorem wp_eq : wp aa0 xa1 w Q = codeW Try.prog hT 17 D (tab tb) [] body (topQ Try.prog hT 17 [.tmp 4, .tmp 5] Q) (argsF [.pointer (some aa0), .int .i64 xa1]) w := by kernel_rfl
theorem ok (h : wp aa0 xa1 w Q) : Calls Try.prog 13 #[.pointer (some aa0), .int .i64 xa1] w Q := by
 rw [wp_eq] at h
 refine calls_of_codeW (c := body) (rs := [.tmp 4, .tmp 5]) Try.func13 ?_ ?_ ?_ ?_ ?_ (tab_snd (by
  intro x hx
  simp only [tb, List.not_mem_nil] at hx
  )) ?_ h <;> kernel_rfl
end f_span_Forest_Span
namespace f_span_Forest_Ends
noncomputable def body : Code := (Try.f14.body).getD .skip
def j0 (at7 : Addr) (xt8 : Int) (w : World) (Kr : Int → Int → Int → World → Prop) : Prop := sel (xt8 != 0) (Kr 0 0 xt8 w) (drW w fun w13 => ldI w13 (at7.add 1) .i64 fun x15 => ldI w13 (at7.add 2) .i64 fun x16 => ldI w13 (at7.add 1) .i64 fun x17 => ldI w13 (at7.add 2) .i64 fun x18 => Kr (if x16 < x15 then x16 else x15) (if x18 > x17 then x18 else x17) 0 w13)
def wp (aa0 : Addr) (xa1 : Int) (w : World) (Q : Ending → World → Prop) : Prop := Calls Try.prog 31 #[.pointer (some aa0), .int .i64 xa1] w fun e1 w2 => ∃ p3_0_0 x3_0_1 x3_0_2 x3_0_3 x3_1, e1 = .returned (.tuple #[.agg #[.pointer p3_0_0, .int .i64 x3_0_1, .int .i64 x3_0_2, .int .i64 x3_0_3], .int .i64 x3_1]) ∧ (alW w2 (.cells #[.pointer none, .int .i64 0, .int .i64 0, .int .i64 0] 60) fun B4 w5 => stW w5 ⟨B4, 0, none⟩ (.pointer p3_0_0) fun w6 => stW w6 (.add ⟨B4, 0, none⟩ 1) (.int .i64 x3_0_1) fun w7 => stW w7 (.add ⟨B4, 0, none⟩ 2) (.int .i64 x3_0_2) fun w8 => stW w8 (.add ⟨B4, 0, none⟩ 3) (.int .i64 x3_0_3) fun w9 => ldI w9 (.add ⟨B4, 0, none⟩ 3) .i64 fun x10 => sel (x10 == 0) (stW w9 (.add ⟨B4, 0, none⟩ 1) (.int .i64 xa1) fun w11 => stW w11 (.add ⟨B4, 0, none⟩ 2) (.int .i64 xa1) fun w12 => j0 ⟨B4, 0, none⟩ x3_1 w12 (fun x19 x20 x21 w22 => ∀ _ : Fr, Q (.returned (.tuple #[.int .i64 x19, .int .i64 x20, .int .i64 x21])) w22)) (j0 ⟨B4, 0, none⟩ x3_1 w9 (fun x23 x24 x25 w26 => ∀ _ : Fr, Q (.returned (.tuple #[.int .i64 x23, .int .i64 x24, .int .i64 x25])) w26)))
def D : Nat → Option DH := dtab [(6, .simple [.fst 0, .fst 1, .fst 2, .fst 3, .fst 4, .fst 5, .fst 6, .fst 7, .fst 8, .fst 9, .fst 10] [.fst 11, .fst 12])]
def j0LO : LO := ⟨[], [4, 5, 6], [], []⟩
def j0T : Spec := fun Q σ w => gAd (σ 7) fun at7 => gInt .i64 (σ 8) fun xt8 => j0 at7 xt8 w (fun xq4 xq5 xq6 w => ∀ d : Fr, Q .ret (ov d [(4, .int .i64 xq4), (5, .int .i64 xq5), (6, .int .i64 xq6)]) w)
def j0tb : List (List Nat × Spec) := []
noncomputable def j0b : Code := (subC [1, 1, 1] body).getD .skip
theorem j0_eq (at7 : Addr) (xt8 : Int) (Q : PQ) (σ : Fr) (w : World) : j0 at7 xt8 w (fun xq4 xq5 xq6 w => ∀ d : Fr, Q .ret (ov d [(4, .int .i64 xq4), (5, .int .i64 xq5), (6, .int .i64 xq6)]) w) = codeW Try.prog hT 35 D (tab j0tb) [1, 1, 1] j0b (widen j0LO Q) (ov σ [(7, .pointer (some at7)), (8, .int .i64 xt8)]) w := by kernel_rfl
theorem j0_snd : ∀ c, subC [1, 1, 1] body = some c → Snd Try.prog 35 c j0T := by
 refine cut_of (hT := hT) (D := D) (l := j0tb) (b := j0b) (lo := j0LO) (by kernel_rfl) (by
  intro x hx
  simp only [j0tb, List.not_mem_nil] at hx
  ) (by kernel_rfl) (by kernel_rfl) ?_
 intro Q σ w h
 unfold j0T at h
 obtain ⟨at7, h7, h⟩ := gAd_elim h
 obtain ⟨xt8, h8, h⟩ := gInt_elim h
 rw [j0_eq (σ := σ)] at h
 have e : (ov σ [(7, .pointer (some at7)), (8, .int .i64 xt8)]) = σ := ov_self (by simp [h7, h8])
 rw [e] at h
 exact h
def tb : List (List Nat × Spec) := [([1, 1, 1], j0T)]
variable (aa0 : Addr) (xa1 : Int) (w : World) (Q : Ending → World → Prop)
theorem wp_eq : wp aa0 xa1 w Q = codeW Try.prog hT 35 D (tab tb) [] body (topQ Try.prog hT 35 [.tmp 4, .tmp 5, .tmp 6] Q) (argsF [.pointer (some aa0), .int .i64 xa1]) w := by kernel_rfl
theorem ok (h : wp aa0 xa1 w Q) : Calls Try.prog 14 #[.pointer (some aa0), .int .i64 xa1] w Q := by
 rw [wp_eq] at h
 refine calls_of_codeW (c := body) (rs := [.tmp 4, .tmp 5, .tmp 6]) Try.func14 ?_ ?_ ?_ ?_ ?_ (tab_snd (by
  intro x hx
  simp only [tb, List.mem_cons, List.not_mem_nil, or_false] at hx
  subst hx
  exact j0_snd)) ?_ h <;> kernel_rfl
end f_span_Forest_Ends
namespace f_span_Forest_Distance
noncomputable def body : Code := (Try.f15.body).getD .skip
def wp (aa0 : Addr) (xa1 xa2 : Int) (w : World) (Q : Ending → World → Prop) : Prop := ldP w (aa0.add 1) fun p1 => Calls Try.prog 32 #[.pointer p1, .int .i64 xa1, .int .i64 xa2] w fun e2 w3 => ∃ x4_0_0 x4_0_1 x4_0_2 x4_0_3 r4_0_4 i4_0_4 x4_1, e2 = .returned (.tuple #[.agg #[.int .i64 x4_0_0, .int .i64 x4_0_1, .int .i64 x4_0_2, .int .i64 x4_0_3, .complex .f64 r4_0_4 i4_0_4], .int .i64 x4_1]) ∧ (alW w3 (.cells #[.int .i64 0, .int .i64 0, .int .i64 0, .int .i64 0, .complex .f64 0 0] 69) fun B5 w6 => stW w6 ⟨B5, 0, none⟩ (.int .i64 x4_0_0) fun w7 => stW w7 (.add ⟨B5, 0, none⟩ 1) (.int .i64 x4_0_1) fun w8 => stW w8 (.add ⟨B5, 0, none⟩ 2) (.int .i64 x4_0_2) fun w9 => stW w9 (.add ⟨B5, 0, none⟩ 3) (.int .i64 x4_0_3) fun w10 => stW w10 (.add ⟨B5, 0, none⟩ 4) (.complex .f64 r4_0_4 i4_0_4) fun w11 => ldC w11 (.add ⟨B5, 0, none⟩ 4) .f64 fun r12 i12 => Runs Try.prog (Go.convert 72 2 (.float .f64 r12)) w11 fun v14 w13 => ∃ x15, v14 = (.int .i64 x15) ∧ (Q (.returned (.tuple #[.int .i64 x15, .int .i64 x4_1])) w13))
def D : Nat → Option DH := dtab []
def tb : List (List Nat × Spec) := []
variable (aa0 : Addr) (xa1 xa2 : Int) (w : World) (Q : Ending → World → Prop)
theorem wp_eq : wp aa0 xa1 xa2 w Q = codeW Try.prog hT 25 D (tab tb) [] body (topQ Try.prog hT 25 [.tmp 6, .tmp 7] Q) (argsF [.pointer (some aa0), .int .i64 xa1, .int .i64 xa2]) w := by kernel_rfl
theorem ok (h : wp aa0 xa1 xa2 w Q) : Calls Try.prog 15 #[.pointer (some aa0), .int .i64 xa1, .int .i64 xa2] w Q := by
 rw [wp_eq] at h
 refine calls_of_codeW (c := body) (rs := [.tmp 6, .tmp 7]) Try.func15 ?_ ?_ ?_ ?_ ?_ (tab_snd (by
  intro x hx
  simp only [tb, List.not_mem_nil] at hx
  )) ?_ h <;> kernel_rfl
end f_span_Forest_Distance
namespace f_span_Forest_Link
noncomputable def body : Code := (Try.f16.body).getD .skip
def od4 : OD := ⟨[0, 3], [3, 5, 6, 10, 12, 13], fun i => ([⟨false, [], [], fun ps vs => match ps, vs with | [.pointer (some ap0), .pointer (some ap3)], [] => .pointer (some ap0) | _, _ => undef⟩,
 ⟨false, [], [0], fun ps vs => match ps, vs with | [.pointer (some ap0), .pointer (some ap3)], [] => .pointer (some ap0) | _, _ => undef⟩,
 ⟨false, [], [1], fun ps vs => match ps, vs with | [.pointer (some ap0), .pointer (some ap3)], [] => .pointer (some (ap0.add 2)) | _, _ => undef⟩,
 ⟨true, [], [2], fun _ _ => undef⟩,
 ⟨false, [], [], fun ps vs => match ps, vs with | [.pointer (some ap0), .pointer (some ap3)], [] => .pointer (some (ap3.add 1)) | _, _ => undef⟩,
 ⟨true, [], [4], fun _ _ => undef⟩,
 ⟨true, [3, 5], [3, 5], fun _ _ => undef⟩,
 ⟨false, [], [], fun ps vs => match ps, vs with | [.pointer (some ap0), .pointer (some ap3)], [] => .pointer (some ap0) | _, _ => undef⟩,
 ⟨false, [], [7], fun ps vs => match ps, vs with | [.pointer (some ap0), .pointer (some ap3)], [] => .pointer (some ap0) | _, _ => undef⟩,
 ⟨false, [], [8], fun ps vs => match ps, vs with | [.pointer (some ap0), .pointer (some ap3)], [] => .pointer (some (ap0.add 2)) | _, _ => undef⟩,
 ⟨true, [], [9], fun _ _ => undef⟩,
 ⟨false, [], [], fun ps vs => match ps, vs with | [.pointer (some ap0), .pointer (some ap3)], [] => .pointer (some (ap3.add 2)) | _, _ => undef⟩,
 ⟨true, [], [11], fun _ _ => undef⟩,
 ⟨true, [10, 12], [10, 12], fun _ _ => undef⟩,
 ⟨false, [3, 5, 6], [6], fun ps vs => match ps, vs with | [.pointer (some ap0), .pointer (some ap3)], [.map me3, .int _ xe5, .int _ xe6] => .int .i64 xe6 | _, _ => undef⟩,
 ⟨false, [3, 5, 6, 10, 12, 13], [13], fun ps vs => match ps, vs with | [.pointer (some ap0), .pointer (some ap3)], [.map me3, .int _ xe5, .int _ xe6, .map me10, .int _ xe12, .int _ xe13] => .int .i64 xe13 | _, _ => undef⟩] : List OI).getD i ⟨true, [], [], fun _ _ => undef⟩, fun i => ([.one (.sc .any), .one (.sc .any), .one (.sc .any), (.one (.sc .map)), .one (.sc .any), (.one (.sc (.int .i64))), (.one (.sc (.int .i64))), .one (.sc .any), .one (.sc .any), .one (.sc .any), (.one (.sc .map)), .one (.sc .any), (.one (.sc (.int .i64))), (.one (.sc (.int .i64))), .one (.sc .any), .one (.sc .any)] : List OS).getD i (.one (.sc .any))⟩
def h4 (ap0 ap3 : Addr) : Prop := (∀ (_ : Fr) (w : World), w = w ∧ (.pointer (some ap0) : Value) = (.pointer (some ap0))) ∧ (∀ (_ : Fr) (w : World), w = w ∧ (.pointer (some ap0) : Value) = (.pointer (some ap0))) ∧ (∀ (_ : Fr) (w : World), w = w ∧ (.pointer (some (ap0.add 2)) : Value) = (.pointer (some (ap0.add 2)))) ∧ (∀ (_ : Fr) (w : World), w = w ∧ (.pointer (some (ap3.add 1)) : Value) = (.pointer (some (ap3.add 1)))) ∧ (∀ (_ : Fr) (w : World), w = w ∧ (.pointer (some ap0) : Value) = (.pointer (some ap0))) ∧ (∀ (_ : Fr) (w : World), w = w ∧ (.pointer (some ap0) : Value) = (.pointer (some ap0))) ∧ (∀ (_ : Fr) (w : World), w = w ∧ (.pointer (some (ap0.add 2)) : Value) = (.pointer (some (ap0.add 2)))) ∧ (∀ (_ : Fr) (w : World), w = w ∧ (.pointer (some (ap3.add 2)) : Value) = (.pointer (some (ap3.add 2)))) ∧ (∀ (_ : Fr) (w : World), ∀ (me3 : Option Nat), ∀ (xe5 : Int), ∀ (xe6 : Int), w = w ∧ (.int .i64 xe6 : Value) = (.int .i64 xe6)) ∧ (∀ (_ : Fr) (w : World), ∀ (me3 : Option Nat), ∀ (xe5 : Int), ∀ (xe6 : Int), ∀ (me10 : Option Nat), ∀ (xe12 : Int), ∀ (xe13 : Int), w = w ∧ (.int .i64 xe13 : Value) = (.int .i64 xe13)) ∧ True
theorem h4_ok (ap0 ap3 : Addr) : h4 ap0 ap3 := ⟨fun _ w => ⟨rfl, rfl⟩, fun _ w => ⟨rfl, rfl⟩, fun _ w => ⟨rfl, rfl⟩, fun _ w => ⟨rfl, rfl⟩, fun _ w => ⟨rfl, rfl⟩, fun _ w => ⟨rfl, rfl⟩, fun _ w => ⟨rfl, rfl⟩, fun _ w => ⟨rfl, rfl⟩, fun _ w _ _ _ => ⟨rfl, rfl⟩, fun _ w _ _ _ _ _ _ => ⟨rfl, rfl⟩, trivial⟩
def l0 : Nat → Addr → Int → Option Addr → Nat → Nat → Int → Int → World → (World → Prop) → Prop | 0, _, _, _, _, _, _, _, _, _ => False | k + 1, at0, xt6, At59, nt59, ct59, xt60, xt61, w, K0 => sel (decide (xt61 < xt60)) (optB At59 fun a50 => req (decide (0 ≤ xt61 ∧ xt61 < (nt59 : Int))) <| ldI w (a50.add (xt61.toNat * 1)) .i64 fun x51 => ldP w at0 fun p52 => Calls Try.prog 36 #[.pointer p52, .int .i64 xt6, .int .i64 x51] w fun e53 w54 => ∃ x55, e53 = .returned (.int .i64 x55) ∧ (l0 k at0 xt6 At59 nt59 ct59 xt60 (IntKind.i64.wrap (xt61 + 1)) w54 K0)) (K0 w)
def wp (aa0 : Addr) (xa1_0 xa1_1 xa1_2 xa1_3 : Int) (w : World) (Q : Ending → World → Prop) : Prop := alW w (.cells #[.int .i64 xa1_0, .int .i64 xa1_1, .int .i64 xa1_2, .int .i64 xa1_3] 33) fun B1 w2 => drW w2 fun w3 => ldP w3 (aa0.add 1) fun p5 => ldI w3 ⟨B1, 0, none⟩ .i64 fun x6 => ldI w3 (.add ⟨B1, 0, none⟩ 1) .i64 fun x7 => ldI w3 (.add ⟨B1, 0, none⟩ 2) .i64 fun x8 => ldI w3 (.add ⟨B1, 0, none⟩ 3) .i64 fun x9 => Calls Try.prog 33 #[.pointer p5, .agg #[.int .i64 x6, .int .i64 x7, .int .i64 x8, .int .i64 x9]] w3 fun e10 w11 => ∃ x12, e10 = .returned (.int .i64 x12) ∧ (sel (x12 != 0) (Q (.returned (.int .i64 x12)) w11) (drW w11 fun w13 => h4 aa0 ⟨B1, 0, none⟩ ∧ ∃ (G14 : World → World → Prop) (Φ15 : Nat → Value → World → Prop), (∀ w, G14 w w) ∧ (∀ a b c, G14 a b → G14 b c → G14 a c) ∧ (∀ i v a b, G14 w13 a → G14 a b → Φ15 i v a → Φ15 i v b) ∧ ((∀ (_ : Fr) (w16 : World), G14 w13 w16 → (ldM w16 (aa0.add 2) fun m17 => G14 w16 w16 ∧ Φ15 3 (.map m17) w16)) ∧ (∀ (_ : Fr) (w18 : World), G14 w13 w18 → (ldI w18 (.add ⟨B1, 0, none⟩ 1) .i64 fun x19 => G14 w18 w18 ∧ Φ15 5 (.int .i64 x19) w18)) ∧ (∀ (_ : Fr) (w20 : World), G14 w13 w20 → ∀ (me3 : Option Nat), Φ15 3 (.map me3) w20 → ∀ (xe5 : Int), Φ15 5 (.int .i64 xe5) w20 → (Runs Try.prog (Instr.lookup 63 (.map me3) (.int .i64 xe5) false) w20 fun v22 w21 => ∃ x23, v22 = (.int .i64 x23) ∧ (G14 w20 w21 ∧ Φ15 6 (.int .i64 x23) w21))) ∧ (∀ (_ : Fr) (w24 : World), G14 w13 w24 → (ldM w24 (aa0.add 2) fun m25 => G14 w24 w24 ∧ Φ15 10 (.map m25) w24)) ∧ (∀ (_ : Fr) (w26 : World), G14 w13 w26 → (ldI w26 (.add ⟨B1, 0, none⟩ 2) .i64 fun x27 => G14 w26 w26 ∧ Φ15 12 (.int .i64 x27) w26)) ∧ (∀ (_ : Fr) (w28 : World), G14 w13 w28 → ∀ (me10 : Option Nat), Φ15 10 (.map me10) w28 → ∀ (xe12 : Int), Φ15 12 (.int .i64 xe12) w28 → (Runs Try.prog (Instr.lookup 63 (.map me10) (.int .i64 xe12) false) w28 fun v30 w29 => ∃ x31, v30 = (.int .i64 x31) ∧ (G14 w28 w29 ∧ Φ15 13 (.int .i64 x31) w29))) ∧ True) ∧ ∀ w32, G14 w13 w32 → ∀ (me3 : Option Nat), Φ15 3 (.map me3) w32 → ∀ (xe5 : Int), Φ15 5 (.int .i64 xe5) w32 → ∀ (xe6 : Int), Φ15 6 (.int .i64 xe6) w32 → ∀ (me10 : Option Nat), Φ15 10 (.map me10) w32 → ∀ (xe12 : Int), Φ15 12 (.int .i64 xe12) w32 → ∀ (xe13 : Int), Φ15 13 (.int .i64 xe13) w32 → (Calls Try.prog 34 #[.pointer (some aa0), .agg #[.pointer none, .int .i64 0, .int .i64 0, .int .i64 0]] w32 fun e33 w34 => ∃ x35, e33 = .returned (.int .i64 x35) ∧ (Calls Try.prog 34 #[.pointer (some aa0), .agg #[.pointer none, .int .i64 0, .int .i64 0, .int .i64 0]] w34 fun e36 w37 => ∃ x38, e36 = .returned (.int .i64 x38) ∧ (drW w37 fun w39 => ldM w39 (aa0.add 3) fun m41 => ldI w39 ⟨B1, 0, none⟩ .i64 fun x42 => Runs Try.prog (Instr.mapUpdate 64 (.map m41) (.int .i64 x42) (.agg #[.int .i64 x35, .int .i64 x38])) w39 fun _ w43 => Calls Try.prog 35 #[.pointer (some aa0), .int .i64 xe6] w43 fun e44 w45 => e44 = .returned (.tuple #[]) ∧ (Calls Try.prog 35 #[.pointer (some aa0), .int .i64 xe13] w45 fun e46 w47 => e46 = .returned (.tuple #[]) ∧ (alW w47 (.cells #[.int .i64 x35, .int .i64 xe13, .int .i64 x38] 3) fun B48 w49 => ∃ k57, l0 k57 aa0 xe6 (some ⟨B48, 0, none⟩) 3 3 ((3 : Nat) : Int) 0 w49 (fun w56 => ∀ _ : Fr, Q (.returned (.int .i64 0)) w56))))))))
def D : Nat → Option DH := dtab [(1, .simple [.fst 0, .fst 1, .fst 2, .fst 3, .fst 4] [.eff 5, .fst 6]), (4, .opn od4), (6, .simple [.fst 0, .fst 1, .fst 2, .fst 3, .fst 4, .fst 5, .fst 6, .fst 7, .fst 8] [.eff 9])]
def l0LO : LO := ⟨[], [], [(0, [])], []⟩
def l0Tk (k : Nat) : Spec := fun Q σ w => gAd (σ 0) fun at0 => gInt .i64 (σ 6) fun xt6 => gSlice (σ 59) fun At59 nt59 ct59 => gInt .i64 (σ 60) fun xt60 => gInt .i64 (σ 61) fun xt61 => l0 k at0 xt6 At59 nt59 ct59 xt60 xt61 w (fun w => ∀ d : Fr, Q (.exit 0) (ov d []) w)
def l0T : Spec := fun Q σ w => ∃ k, l0Tk k Q σ w
def l0tb : List (List Nat × Spec) := []
noncomputable def l0b : Code := (subC [0, 0, 1, 0, 1, 1, 1, 1, 1, 1, 1] body).getD .skip
theorem l0_eq (k : Nat) (at0 : Addr) (xt6 : Int) (At59 : Option Addr) (nt59 ct59 : Nat) (xt60 xt61 : Int) (Q : PQ) (σ : Fr) (w : World) : l0 (k + 1) at0 xt6 At59 nt59 ct59 xt60 xt61 w (fun w => ∀ d : Fr, Q (.exit 0) (ov d []) w) = codeW Try.prog hT 73 D (tab l0tb) [0, 0, 1, 0, 1, 1, 1, 1, 1, 1, 1] l0b (thenQ (l0Tk k Q) (widen l0LO Q)) (ov σ [(0, .pointer (some at0)), (6, .int .i64 xt6), (59, .slice At59 nt59 ct59), (60, .int .i64 xt60), (61, .int .i64 xt61)]) w := by kernel_rfl
theorem l0_snd : ∀ c, subC [0, 1, 0, 1, 1, 1, 1, 1, 1, 1] body = some c → Snd Try.prog 73 c l0T := by
 refine loop_of (hT := hT) (D := D) (l := l0tb) (b := l0b) (lo := l0LO) (by kernel_rfl) (by
  intro x hx
  simp only [l0tb, List.not_mem_nil] at hx
  ) (by kernel_rfl) (by kernel_rfl) ?_ ?_
 ·intro Q σ w h
  unfold l0Tk at h
  obtain ⟨_, _, h⟩ := gAd_elim h
  obtain ⟨_, _, h⟩ := gInt_elim h
  obtain ⟨_, _, _, _, h⟩ := gSlice_elim h
  obtain ⟨_, _, h⟩ := gInt_elim h
  obtain ⟨_, _, h⟩ := gInt_elim h
  exact h
 ·intro k Q σ w h
  unfold l0Tk at h
  obtain ⟨at0, h0, h⟩ := gAd_elim h
  obtain ⟨xt6, h6, h⟩ := gInt_elim h
  obtain ⟨At59, nt59, ct59, h59, h⟩ := gSlice_elim h
  obtain ⟨xt60, h60, h⟩ := gInt_elim h
  obtain ⟨xt61, h61, h⟩ := gInt_elim h
  rw [l0_eq (σ := σ)] at h
  have e : (ov σ [(0, .pointer (some at0)), (6, .int .i64 xt6), (59, .slice At59 nt59 ct59), (60, .int .i64 xt60), (61, .int .i64 xt61)]) = σ := ov_self (by simp [h0, h6, h59, h60, h61])
  rw [e] at h
  exact h
def tb : List (List Nat × Spec) := [([0, 1, 0, 1, 1, 1, 1, 1, 1, 1], l0T)]
variable (aa0 : Addr) (xa1_0 xa1_1 xa1_2 xa1_3 : Int) (w : World) (Q : Ending → World → Prop)
theorem wp_eq : wp aa0 xa1_0 xa1_1 xa1_2 xa1_3 w Q = codeW Try.prog hT 73 D (tab tb) [] body (topQ Try.prog hT 73 [.tmp 4] Q) (argsF [.pointer (some aa0), .agg #[.int .i64 xa1_0, .int .i64 xa1_1, .int .i64 xa1_2, .int .i64 xa1_3]]) w := by kernel_rfl
theorem ok (h : wp aa0 xa1_0 xa1_1 xa1_2 xa1_3 w Q) : Calls Try.prog 16 #[.pointer (some aa0), .agg #[.int .i64 xa1_0, .int .i64 xa1_1, .int .i64 xa1_2, .int .i64 xa1_3]] w Q := by
 rw [wp_eq] at h
 refine calls_of_codeW (c := body) (rs := [.tmp 4]) Try.func16 ?_ ?_ ?_ ?_ ?_ (tab_snd (by
  intro x hx
  simp only [tb, List.mem_cons, List.not_mem_nil, or_false] at hx
  subst hx
  exact l0_snd)) ?_ h <;> kernel_rfl
end f_span_Forest_Link
namespace f_span_Forest_Cut
noncomputable def body : Code := (Try.f17.body).getD .skip
def l0 : Nat → Addr → Int → Int → Int → World → (World → Prop) → Prop | 0, _, _, _, _, _, _ => False | k + 1, at0, xt39_0, xt39_1, xt40, w, K0 => sel (decide (xt40 < 2)) (req (true && decide (0 ≤ xt40 ∧ xt40 < ((2 : Nat) : Int))) <| idxI (#[.int .i64 xt39_0, .int .i64 xt39_1] : Array Value) xt40.toNat .i64 fun x25 => ldP w at0 fun p26 => Calls Try.prog 39 #[.pointer p26, .int .i64 x25, .int .i64 1] w fun e27 w28 => ∃ x29_0 x29_1, e27 = .returned (.tuple #[.int .i64 x29_0, .int .i64 x29_1]) ∧ (sel (x29_1 == 0) (ldP w28 at0 fun p30 => Calls Try.prog 38 #[.pointer p30, .int .i64 x29_0] w28 fun e31 w32 => ∃ x33, e31 = .returned (.int .i64 x33) ∧ (l0 k at0 xt39_0 xt39_1 (IntKind.i64.wrap (xt40 + 1)) w32 K0)) (l0 k at0 xt39_0 xt39_1 (IntKind.i64.wrap (xt40 + 1)) w28 K0))) (K0 w)
def wp (aa0 : Addr) (xa1 : Int) (w : World) (Q : Ending → World → Prop) : Prop := ldM w (aa0.add 3) fun m1 => Runs Try.prog (Instr.lookup 64 (.map m1) (.int .i64 xa1) true) w fun v3 w2 => ∃ x4_0_0 x4_0_1 b4_1, v3 = (.tuple #[.agg #[.int .i64 x4_0_0, .int .i64 x4_0_1], .bool b4_1]) ∧ (alW w2 (.cells #[.int .i64 0, .int .i64 0] 82) fun B5 w6 => stW w6 ⟨B5, 0, none⟩ (.int .i64 x4_0_0) fun w7 => stW w7 (.add ⟨B5, 0, none⟩ 1) (.int .i64 x4_0_1) fun w8 => sel (!b4_1) (ldP w8 (aa0.add 1) fun p9 => Calls Try.prog 37 #[.pointer p9, .int .i64 xa1] w8 fun e10 w11 => ∃ x12, e10 = .returned (.int .i64 x12) ∧ (Q (.returned (.int .i64 x12)) w11)) (ldI w8 ((⟨B5, 0, none⟩ : Addr).add ((0 : Int).toNat * 1)) .i64 fun x13 => Calls Try.prog 35 #[.pointer (some aa0), .int .i64 x13] w8 fun e14 w15 => e14 = .returned (.tuple #[]) ∧ (drW w15 fun w16 => ldP w16 aa0 fun p18 => ldI w16 ((⟨B5, 0, none⟩ : Addr).add ((1 : Int).toNat * 1)) .i64 fun x19 => Calls Try.prog 38 #[.pointer p18, .int .i64 x19] w16 fun e20 w21 => ∃ x22, e20 = .returned (.int .i64 x22) ∧ (ldI w21 ⟨B5, 0, none⟩ .i64 fun x23 => ldI w21 (.add ⟨B5, 0, none⟩ 1) .i64 fun x24 => ∃ k49, l0 k49 aa0 x23 x24 0 w21 (fun w34 => ∀ _ : Fr, drW w34 fun w35 => ∃ S36 : World → Prop, S36 w35 ∧ (hdS S36 (aa0.add 4) fun A37 n37 c37 => Runs Try.prog (Builtin.append_ #[22, 22] 22 #[.slice A37 n37 c37, .slice (some (slB ⟨B5, 0, none⟩ 0 2 1)) (2 - 0) (2 - 0)]) w35 fun v39 w38 => ∃ A40 n40 c40, v39 = (.slice A40 n40 c40) ∧ (S36 w38 ∧ (stW w38 (aa0.add 4) (.slice A40 n40 c40) fun w41 => ldM w41 (aa0.add 3) fun m42 => Runs Try.prog (Builtin.delete_ #[64, 3] 0 #[.map m42, .int .i64 xa1]) w41 fun v44 w43 => v44 = (.tuple #[]) ∧ (ldP w43 (aa0.add 1) fun p45 => Calls Try.prog 37 #[.pointer p45, .int .i64 xa1] w43 fun e46 w47 => ∃ x48, e46 = .returned (.int .i64 x48) ∧ (Q (.returned (.int .i64 x48)) w47))))))))))
def D : Nat → Option DH := dtab [(5, .simple [.fst 0, .fst 1, .fst 2, .fst 3, .fst 4, .fst 5] [.eff 6]), (13, .held [.fst 0, .fst 1, .fst 2, .fst 3, .fst 4, .fst 5, .eff 6] [.fst 7, .fst 8, .eff 9])]
def l0LO : LO := ⟨[], [], [(0, [0, 1, 5])], []⟩
def l0Tk (k : Nat) : Spec := fun Q σ w => gAd (σ 0) fun at0 => gAgg (σ 39) fun l50 => gCons l50 fun h53 l51 => gInt .i64 h53 fun xt39_0 => gCons l51 fun h54 l52 => gInt .i64 h54 fun xt39_1 => gNil l52 <| gInt .i64 (σ 40) fun xt40 => l0 k at0 xt39_0 xt39_1 xt40 w (fun w => ∀ d : Fr, Q (.exit 0) (ov d [(0, .pointer (some at0)), (1, σ 1), (5, σ 5)]) w)
def l0T : Spec := fun Q σ w => ∃ k, l0Tk k Q σ w
def l0tb : List (List Nat × Spec) := []
noncomputable def l0b : Code := (subC [0, 0, 1, 0, 1, 1, 1, 1, 1] body).getD .skip
theorem l0_eq (k : Nat) (at0 : Addr) (xt39_0 xt39_1 xt40 : Int) (Q : PQ) (σ : Fr) (w : World) : l0 (k + 1) at0 xt39_0 xt39_1 xt40 w (fun w => ∀ d : Fr, Q (.exit 0) (ov d [(0, .pointer (some at0)), (1, σ 1), (5, σ 5)]) w) = codeW Try.prog hT 81 D (tab l0tb) [0, 0, 1, 0, 1, 1, 1, 1, 1] l0b (thenQ (l0Tk k Q) (widen l0LO Q)) (ov σ [(0, .pointer (some at0)), (39, .agg #[.int .i64 xt39_0, .int .i64 xt39_1]), (40, .int .i64 xt40)]) w := by kernel_rfl
theorem l0_snd : ∀ c, subC [0, 1, 0, 1, 1, 1, 1, 1] body = some c → Snd Try.prog 81 c l0T := by
 refine loop_of (hT := hT) (D := D) (l := l0tb) (b := l0b) (lo := l0LO) (by kernel_rfl) (by
  intro x hx
  simp only [l0tb, List.not_mem_nil] at hx
  ) (by kernel_rfl) (by kernel_rfl) ?_ ?_
 ·intro Q σ w h
  unfold l0Tk at h
  obtain ⟨at0, h0, h⟩ := gAd_elim h
  obtain ⟨lh39, h39, h⟩ := gAgg_elim h
  obtain ⟨hdh39_0, tlh39_0, eh39_0, hn⟩ := gCons_elim h
  clear h
  have h := hn
  clear hn
  subst eh39_0
  obtain ⟨xt39_0, fh39_0, hn⟩ := gInt_elim h
  clear h
  have h := hn
  clear hn
  subst fh39_0
  obtain ⟨hdh39_1, tlh39_1, eh39_1, hn⟩ := gCons_elim h
  clear h
  have h := hn
  clear hn
  subst eh39_1
  obtain ⟨xt39_1, fh39_1, hn⟩ := gInt_elim h
  clear h
  have h := hn
  clear hn
  subst fh39_1
  obtain ⟨eh39, hn⟩ := gNil_elim h
  clear h
  have h := hn
  clear hn
  subst eh39
  obtain ⟨xt40, h40, h⟩ := gInt_elim h
  exact h
 ·intro k Q σ w h
  unfold l0Tk at h
  obtain ⟨at0, h0, h⟩ := gAd_elim h
  obtain ⟨lh39, h39, h⟩ := gAgg_elim h
  obtain ⟨hdh39_0, tlh39_0, eh39_0, hn⟩ := gCons_elim h
  clear h
  have h := hn
  clear hn
  subst eh39_0
  obtain ⟨xt39_0, fh39_0, hn⟩ := gInt_elim h
  clear h
  have h := hn
  clear hn
  subst fh39_0
  obtain ⟨hdh39_1, tlh39_1, eh39_1, hn⟩ := gCons_elim h
  clear h
  have h := hn
  clear hn
  subst eh39_1
  obtain ⟨xt39_1, fh39_1, hn⟩ := gInt_elim h
  clear h
  have h := hn
  clear hn
  subst fh39_1
  obtain ⟨eh39, hn⟩ := gNil_elim h
  clear h
  have h := hn
  clear hn
  subst eh39
  obtain ⟨xt40, h40, h⟩ := gInt_elim h
  rw [l0_eq (σ := σ)] at h
  have e : (ov σ [(0, .pointer (some at0)), (39, .agg #[.int .i64 xt39_0, .int .i64 xt39_1]), (40, .int .i64 xt40)]) = σ := ov_self (by simp [h0, h39, h40])
  rw [e] at h
  exact h
def tb : List (List Nat × Spec) := [([0, 1, 0, 1, 1, 1, 1, 1], l0T)]
variable (aa0 : Addr) (xa1 : Int) (w : World) (Q : Ending → World → Prop)
theorem wp_eq : wp aa0 xa1 w Q = codeW Try.prog hT 81 D (tab tb) [] body (topQ Try.prog hT 81 [.tmp 4] Q) (argsF [.pointer (some aa0), .int .i64 xa1]) w := by kernel_rfl
theorem ok (h : wp aa0 xa1 w Q) : Calls Try.prog 17 #[.pointer (some aa0), .int .i64 xa1] w Q := by
 rw [wp_eq] at h
 refine calls_of_codeW (c := body) (rs := [.tmp 4]) Try.func17 ?_ ?_ ?_ ?_ ?_ (tab_snd (by
  intro x hx
  simp only [tb, List.mem_cons, List.not_mem_nil, or_false] at hx
  subst hx
  exact l0_snd)) ?_ h <;> kernel_rfl
end f_span_Forest_Cut
namespace f_span_Forest_AddV
noncomputable def body : Code := (Try.f22.body).getD .skip
def wp (aa0 : Addr) (xa1 : Int) (w : World) (Q : Ending → World → Prop) : Prop := ldP w (aa0.add 1) fun p1 => Calls Try.prog 45 #[.pointer p1, .int .i64 xa1] w fun e2 w3 => ∃ x4, e2 = .returned (.int .i64 x4) ∧ (sel (x4 != 0) (Q (.returned (.int .i64 x4)) w3) (drW w3 fun w5 => ∃ S6 : World → Prop, S6 w5 ∧ (hdM S6 (aa0.add 2) fun m7 => Calls Try.prog 34 #[.pointer (some aa0), .agg #[.pointer (some aa0), .int .i64 xa1, .int .i64 xa1, .int .i64 0]] w5 fun e8 w9 => ∃ x10, e8 = .returned (.int .i64 x10) ∧ (S6 w9 ∧ (Runs Try.prog (Instr.mapUpdate 63 (.map m7) (.int .i64 xa1) (.int .i64 x10)) w9 fun _ w11 => Q (.returned (.int .i64 0)) w11)))))
def D : Nat → Option DH := dtab [(4, .held [.fst 0, .fst 1, .fst 2, .fst 3, .fst 4, .fst 5, .fst 6, .fst 7, .fst 8, .fst 9, .eff 10] [.eff 11])]
def tb : List (List Nat × Spec) := []
variable (aa0 : Addr) (xa1 : Int) (w : World) (Q : Ending → World → Prop)
theorem wp_eq : wp aa0 xa1 w Q = codeW Try.prog hT 26 D (tab tb) [] body (topQ Try.prog hT 26 [.tmp 4] Q) (argsF [.pointer (some aa0), .int .i64 xa1]) w := by kernel_rfl
theorem ok (h : wp aa0 xa1 w Q) : Calls Try.prog 22 #[.pointer (some aa0), .int .i64 xa1] w Q := by
 rw [wp_eq] at h
 refine calls_of_codeW (c := body) (rs := [.tmp 4]) Try.func22 ?_ ?_ ?_ ?_ ?_ (tab_snd (by
  intro x hx
  simp only [tb, List.not_mem_nil] at hx
  )) ?_ h <;> kernel_rfl
end f_span_Forest_AddV
namespace f_span_Forest_DelV
noncomputable def body : Code := (Try.f25.body).getD .skip
def wp (aa0 : Addr) (xa1 : Int) (w : World) (Q : Ending → World → Prop) : Prop := ldP w (aa0.add 1) fun p1 => Calls Try.prog 46 #[.pointer p1, .int .i64 xa1] w fun e2 w3 => ∃ x4, e2 = .returned (.int .i64 x4) ∧ (sel (x4 != 0) (Q (.returned (.int .i64 x4)) w3) (drW w3 fun w5 => ∃ S6 : World → Prop, S6 w5 ∧ (hdS S6 (aa0.add 4) fun A7 n7 c7 => hdM S6 (aa0.add 2) fun m8 => Runs Try.prog (Instr.lookup 63 (.map m8) (.int .i64 xa1) false) w5 fun v10 w9 => ∃ x11, v10 = (.int .i64 x11) ∧ (S6 w9 ∧ (alW w9 (.cells #[.int .i64 x11] 3) fun B12 w13 => S6 w13 ∧ (Runs Try.prog (Builtin.append_ #[22, 22] 22 #[.slice A7 n7 c7, .slice (some ⟨B12, 0, none⟩) 1 1]) w13 fun v15 w14 => ∃ A16 n16 c16, v15 = (.slice A16 n16 c16) ∧ (S6 w14 ∧ (stW w14 (aa0.add 4) (.slice A16 n16 c16) fun w17 => ldM w17 (aa0.add 2) fun m18 => Runs Try.prog (Builtin.delete_ #[63, 3] 0 #[.map m18, .int .i64 xa1]) w17 fun v20 w19 => v20 = (.tuple #[]) ∧ (Q (.returned (.int .i64 0)) w19)))))))))
def D : Nat → Option DH := dtab [(4, .held [.fst 0, .fst 1, .fst 2, .fst 3, .fst 4, .fst 5, .fst 6, .fst 7, .fst 8, .fst 9, .eff 10, .eff 11, .eff 12] [.fst 13, .fst 14, .eff 15])]
def tb : List (List Nat × Spec) := []
variable (aa0 : Addr) (xa1 : Int) (w : World) (Q : Ending → World → Prop)
theorem wp_eq : wp aa0 xa1 w Q = codeW Try.prog hT 35 D (tab tb) [] body (topQ Try.prog hT 35 [.tmp 4] Q) (argsF [.pointer (some aa0), .int .i64 xa1]) w := by kernel_rfl
theorem ok (h : wp aa0 xa1 w Q) : Calls Try.prog 25 #[.pointer (some aa0), .int .i64 xa1] w Q := by
 rw [wp_eq] at h
 refine calls_of_codeW (c := body) (rs := [.tmp 4]) Try.func25 ?_ ?_ ?_ ?_ ?_ (tab_snd (by
  intro x hx
  simp only [tb, List.not_mem_nil] at hx
  )) ?_ h <;> kernel_rfl
end f_span_Forest_DelV
namespace f_span_Forest_reach
noncomputable def body : Code := (Try.f31.body).getD .skip
def od1 : OD := ⟨[0, 1], [3, 7, 9, 10, 14, 15], fun i => ([⟨false, [], [], fun ps vs => match ps, vs with | [.pointer (some ap0), .int _ xp1], [] => .pointer (some ap0) | _, _ => undef⟩,
 ⟨false, [], [0], fun ps vs => match ps, vs with | [.pointer (some ap0), .int _ xp1], [] => .pointer (some ap0) | _, _ => undef⟩,
 ⟨false, [], [1], fun ps vs => match ps, vs with | [.pointer (some ap0), .int _ xp1], [] => .pointer (some ap0) | _, _ => undef⟩,
 ⟨true, [], [2], fun _ _ => undef⟩,
 ⟨false, [], [], fun ps vs => match ps, vs with | [.pointer (some ap0), .int _ xp1], [] => .pointer (some ap0) | _, _ => undef⟩,
 ⟨false, [], [4], fun ps vs => match ps, vs with | [.pointer (some ap0), .int _ xp1], [] => .pointer (some ap0) | _, _ => undef⟩,
 ⟨false, [], [5], fun ps vs => match ps, vs with | [.pointer (some ap0), .int _ xp1], [] => .pointer (some (ap0.add 2)) | _, _ => undef⟩,
 ⟨true, [], [6], fun _ _ => undef⟩,
 ⟨false, [], [], fun ps vs => match ps, vs with | [.pointer (some ap0), .int _ xp1], [] => .int .i64 xp1 | _, _ => undef⟩,
 ⟨true, [7], [7, 8], fun _ _ => undef⟩,
 ⟨true, [3, 7, 9], [3, 9], fun _ _ => undef⟩,
 ⟨false, [3, 7, 9, 10], [10], fun ps vs => match ps, vs with | [.pointer (some ap0), .int _ xp1], [.pointer pe3, .map me7, .int _ xe9, .tuple ⟨[.agg ⟨[.pointer pe10_0_0, .int _ xe10_0_1, .int _ xe10_0_2, .int _ xe10_0_3]⟩, .int _ xe10_1]⟩] => .tuple #[.agg #[.pointer pe10_0_0, .int .i64 xe10_0_1, .int .i64 xe10_0_2, .int .i64 xe10_0_3], .int .i64 xe10_1] | _, _ => undef⟩,
 ⟨false, [3, 7, 9, 10], [11], fun ps vs => match ps, vs with | [.pointer (some ap0), .int _ xp1], [.pointer pe3, .map me7, .int _ xe9, .tuple ⟨[.agg ⟨[.pointer pe10_0_0, .int _ xe10_0_1, .int _ xe10_0_2, .int _ xe10_0_3]⟩, .int _ xe10_1]⟩] => .agg #[.pointer pe10_0_0, .int .i64 xe10_0_1, .int .i64 xe10_0_2, .int .i64 xe10_0_3] | _, _ => undef⟩,
 ⟨false, [3, 7, 9, 10], [11], fun ps vs => match ps, vs with | [.pointer (some ap0), .int _ xp1], [.pointer pe3, .map me7, .int _ xe9, .tuple ⟨[.agg ⟨[.pointer pe10_0_0, .int _ xe10_0_1, .int _ xe10_0_2, .int _ xe10_0_3]⟩, .int _ xe10_1]⟩] => .int .i64 xe10_1 | _, _ => undef⟩,
 ⟨true, [], [], fun _ _ => undef⟩,
 ⟨true, [3, 7, 9, 10, 14], [12, 14], fun _ _ => undef⟩,
 ⟨false, [3, 7, 9, 10, 14, 15], [13], fun ps vs => match ps, vs with | [.pointer (some ap0), .int _ xp1], [.pointer pe3, .map me7, .int _ xe9, .tuple ⟨[.agg ⟨[.pointer pe10_0_0, .int _ xe10_0_1, .int _ xe10_0_2, .int _ xe10_0_3]⟩, .int _ xe10_1]⟩, .pointer (some ae14), .tuple ⟨[]⟩] => .int .i64 xe10_1 | _, _ => undef⟩] : List OI).getD i ⟨true, [], [], fun _ _ => undef⟩, fun i => ([.one (.sc .any), .one (.sc .any), .one (.sc .any), (.one (.sc .ptr)), .one (.sc .any), .one (.sc .any), .one (.sc .any), (.one (.sc .map)), .one (.sc .any), (.one (.sc (.int .i64))), (.tup [(.agg [.ptr, (.int .i64), (.int .i64), (.int .i64)]), (.sc (.int .i64))]), .one (.sc .any), .one (.sc .any), .one (.sc .any), (.one (.sc .ad)), (.tup []), .one (.sc .any)] : List OS).getD i (.one (.sc .any))⟩
def h1 (ap0 : Addr) (xp1 : Int) : Prop := (∀ (_ : Fr) (w : World), w = w ∧ (.pointer (some ap0) : Value) = (.pointer (some ap0))) ∧ (∀ (_ : Fr) (w : World), w = w ∧ (.pointer (some ap0) : Value) = (.pointer (some ap0))) ∧ (∀ (_ : Fr) (w : World), w = w ∧ (.pointer (some ap0) : Value) = (.pointer (some ap0))) ∧ (∀ (_ : Fr) (w : World), w = w ∧ (.pointer (some ap0) : Value) = (.pointer (some ap0))) ∧ (∀ (_ : Fr) (w : World), w = w ∧ (.pointer (some ap0) : Value) = (.pointer (some ap0))) ∧ (∀ (_ : Fr) (w : World), w = w ∧ (.pointer (some (ap0.add 2)) : Value) = (.pointer (some (ap0.add 2)))) ∧ (∀ (_ : Fr) (w : World), w = w ∧ (.int .i64 xp1 : Value) = (.int .i64 xp1)) ∧ (∀ (_ : Fr) (w : World), ∀ (pe3 : Option Addr), ∀ (me7 : Option Nat), ∀ (xe9 : Int), ∀ (pe10_0_0 : Option Addr) (xe10_0_1 xe10_0_2 xe10_0_3 xe10_1 : Int), w = w ∧ (.tuple #[.agg #[.pointer pe10_0_0, .int .i64 xe10_0_1, .int .i64 xe10_0_2, .int .i64 xe10_0_3], .int .i64 xe10_1] : Value) = (.tuple #[.agg #[.pointer pe10_0_0, .int .i64 xe10_0_1, .int .i64 xe10_0_2, .int .i64 xe10_0_3], .int .i64 xe10_1])) ∧ (∀ (_ : Fr) (w : World), ∀ (pe3 : Option Addr), ∀ (me7 : Option Nat), ∀ (xe9 : Int), ∀ (pe10_0_0 : Option Addr) (xe10_0_1 xe10_0_2 xe10_0_3 xe10_1 : Int), w = w ∧ (.agg #[.pointer pe10_0_0, .int .i64 xe10_0_1, .int .i64 xe10_0_2, .int .i64 xe10_0_3] : Value) = (.agg #[.pointer pe10_0_0, .int .i64 xe10_0_1, .int .i64 xe10_0_2, .int .i64 xe10_0_3])) ∧ (∀ (_ : Fr) (w : World), ∀ (pe3 : Option Addr), ∀ (me7 : Option Nat), ∀ (xe9 : Int), ∀ (pe10_0_0 : Option Addr) (xe10_0_1 xe10_0_2 xe10_0_3 xe10_1 : Int), w = w ∧ (.int .i64 xe10_1 : Value) = (.int .i64 xe10_1)) ∧ (∀ (_ : Fr) (w : World), ∀ (pe3 : Option Addr), ∀ (me7 : Option Nat), ∀ (xe9 : Int), ∀ (pe10_0_0 : Option Addr) (xe10_0_1 xe10_0_2 xe10_0_3 xe10_1 : Int), ∀ (ae14 : Addr), w = w ∧ (.int .i64 xe10_1 : Value) = (.int .i64 xe10_1)) ∧ True
theorem h1_ok (ap0 : Addr) (xp1 : Int) : h1 ap0 xp1 := ⟨fun _ w => ⟨rfl, rfl⟩, fun _ w => ⟨rfl, rfl⟩, fun _ w => ⟨rfl, rfl⟩, fun _ w => ⟨rfl, rfl⟩, fun _ w => ⟨rfl, rfl⟩, fun _ w => ⟨rfl, rfl⟩, fun _ w => ⟨rfl, rfl⟩, fun _ w _ _ _ _ _ _ _ _ => ⟨rfl, rfl⟩, fun _ w _ _ _ _ _ _ _ _ => ⟨rfl, rfl⟩, fun _ w _ _ _ _ _ _ _ _ => ⟨rfl, rfl⟩, fun _ w _ _ _ _ _ _ _ _ _ => ⟨rfl, rfl⟩, trivial⟩
def wp (aa0 : Addr) (xa1 : Int) (w : World) (Q : Ending → World → Prop) : Prop := alW w (.cells #[.pointer none, .int .i64 0, .int .i64 0, .int .i64 0] 60) fun B1 w2 => drW w2 fun w3 => h1 aa0 xa1 ∧ ∃ (I4 : (Nat → Bool) → (Nat → Value) → World → Prop), I4 (fun _ => false) (fun _ => undef) w3 ∧ ((∀ (_ : Fr) (ls : Nat → Bool) (vv : Nat → Value) (w26 : World), ls 3 = false → I4 ls vv w26 → (ldP w26 aa0 fun p27 => I4 (upB ls 3) (upV vv 3 (.pointer p27)) w26)) ∧ (∀ (_ : Fr) (ls : Nat → Bool) (vv : Nat → Value) (w28 : World), ls 7 = false → I4 ls vv w28 → (ldM w28 (aa0.add 2) fun m29 => I4 (upB ls 7) (upV vv 7 (.map m29)) w28)) ∧ (∀ (_ : Fr) (ls : Nat → Bool) (vv : Nat → Value) (w30 : World), ls 9 = false → I4 ls vv w30 → ∀ (me7 : Option Nat), (ls 7 = true ∧ vv 7 = .map me7) → (Runs Try.prog (Instr.lookup 63 (.map me7) (.int .i64 xa1) false) w30 fun v32 w31 => ∃ x33, v32 = (.int .i64 x33) ∧ (I4 (upB ls 9) (upV vv 9 (.int .i64 x33)) w31))) ∧ (∀ (_ : Fr) (ls : Nat → Bool) (vv : Nat → Value) (w34 : World), ls 10 = false → I4 ls vv w34 → ∀ (pe3 : Option Addr), (ls 3 = true ∧ vv 3 = .pointer pe3) → ∀ (me7 : Option Nat), (ls 7 = true ∧ vv 7 = .map me7) → ∀ (xe9 : Int), (ls 9 = true ∧ vv 9 = .int .i64 xe9) → (Calls Try.prog 52 #[.pointer pe3, .int .i64 xe9] w34 fun e35 w36 => ∃ p37_0_0 x37_0_1 x37_0_2 x37_0_3 x37_1, e35 = .returned (.tuple #[.agg #[.pointer p37_0_0, .int .i64 x37_0_1, .int .i64 x37_0_2, .int .i64 x37_0_3], .int .i64 x37_1]) ∧ (I4 (upB ls 10) (upV vv 10 (.tuple #[.agg #[.pointer p37_0_0, .int .i64 x37_0_1, .int .i64 x37_0_2, .int .i64 x37_0_3], .int .i64 x37_1])) w36))) ∧ (∀ (_ : Fr) (ls : Nat → Bool) (vv : Nat → Value) (w38 : World), ls 14 = false → I4 ls vv w38 → (alW w38 (.cells #[.pointer none, .int .i64 0, .int .i64 0, .int .i64 0] 60) fun B39 w40 => I4 (upB ls 14) (upV vv 14 (.pointer (some ⟨B39, 0, none⟩))) w40)) ∧ (∀ (_ : Fr) (ls : Nat → Bool) (vv : Nat → Value) (w41 : World), ls 15 = false → I4 ls vv w41 → ∀ (pe3 : Option Addr), (ls 3 = true ∧ vv 3 = .pointer pe3) → ∀ (me7 : Option Nat), (ls 7 = true ∧ vv 7 = .map me7) → ∀ (xe9 : Int), (ls 9 = true ∧ vv 9 = .int .i64 xe9) → ∀ (pe10_0_0 : Option Addr) (xe10_0_1 xe10_0_2 xe10_0_3 xe10_1 : Int), (ls 10 = true ∧ vv 10 = .tuple #[.agg #[.pointer pe10_0_0, .int .i64 xe10_0_1, .int .i64 xe10_0_2, .int .i64 xe10_0_3], .int .i64 xe10_1]) → ∀ (ae14 : Addr), (ls 14 = true ∧ vv 14 = .pointer (some ae14)) → (stW w41 ae14 (.pointer pe10_0_0) fun w42 => stW w42 (ae14.add 1) (.int .i64 xe10_0_1) fun w43 => stW w43 (ae14.add 2) (.int .i64 xe10_0_2) fun w44 => stW w44 (ae14.add 3) (.int .i64 xe10_0_3) fun w45 => I4 (upB ls 15) (upV vv 15 (.tuple #[])) w45)) ∧ True) ∧ ∀ (ls : Nat → Bool) (vv : Nat → Value) (w46 : World), I4 ls vv w46 → ∀ (pe3 : Option Addr), (ls 3 = true ∧ vv 3 = .pointer pe3) → ∀ (me7 : Option Nat), (ls 7 = true ∧ vv 7 = .map me7) → ∀ (xe9 : Int), (ls 9 = true ∧ vv 9 = .int .i64 xe9) → ∀ (pe10_0_0 : Option Addr) (xe10_0_1 xe10_0_2 xe10_0_3 xe10_1 : Int), (ls 10 = true ∧ vv 10 = .tuple #[.agg #[.pointer pe10_0_0, .int .i64 xe10_0_1, .int .i64 xe10_0_2, .int .i64 xe10_0_3], .int .i64 xe10_1]) → ∀ (ae14 : Addr), (ls 14 = true ∧ vv 14 = .pointer (some ae14)) → (ls 15 = true ∧ vv 15 = .tuple #[]) → (sel (xe10_1 != 0) (stW w46 ⟨B1, 0, none⟩ (.pointer none) fun w47 => stW w47 (.add ⟨B1, 0, none⟩ 1) (.int .i64 0) fun w48 => stW w48 (.add ⟨B1, 0, none⟩ 2) (.int .i64 0) fun w49 => stW w49 (.add ⟨B1, 0, none⟩ 3) (.int .i64 0) fun w50 => ldP w50 ⟨B1, 0, none⟩ fun p51 => ldI w50 (.add ⟨B1, 0, none⟩ 1) .i64 fun x52 => ldI w50 (.add ⟨B1, 0, none⟩ 2) .i64 fun x53 => ldI w50 (.add ⟨B1, 0, none⟩ 3) .i64 fun x54 => Q (.returned (.tuple #[.agg #[.pointer p51, .int .i64 x52, .int .i64 x53, .int .i64 x54], .int .i64 51])) w50) (ldP w46 ae14 fun p55 => ldI w46 (ae14.add 1) .i64 fun x56 => ldI w46 (ae14.add 2) .i64 fun x57 => ldI w46 (ae14.add 3) .i64 fun x58 => stW w46 ⟨B1, 0, none⟩ (.pointer p55) fun w59 => stW w59 (.add ⟨B1, 0, none⟩ 1) (.int .i64 x56) fun w60 => stW w60 (.add ⟨B1, 0, none⟩ 2) (.int .i64 x57) fun w61 => stW w61 (.add ⟨B1, 0, none⟩ 3) (.int .i64 x58) fun w62 => ldP w62 ⟨B1, 0, none⟩ fun p63 => ldI w62 (.add ⟨B1, 0, none⟩ 1) .i64 fun x64 => ldI w62 (.add ⟨B1, 0, none⟩ 2) .i64 fun x65 => ldI w62 (.add ⟨B1, 0, none⟩ 3) .i64 fun x66 => Q (.returned (.tuple #[.agg #[.pointer p63, .int .i64 x64, .int .i64 x65, .int .i64 x66], .int .i64 0])) w62))
def D : Nat → Option DH := dtab [(1, .opi od1)]
def tb : List (List Nat × Spec) := []
variable (aa0 : Addr) (xa1 : Int) (w : World) (Q : Ending → World → Prop)
theorem wp_eq : wp aa0 xa1 w Q = codeW Try.prog hT 26 D (tab tb) [] body (topQ Try.prog hT 26 [.cell 4 60, .tmp 5] Q) (argsF [.pointer (some aa0), .int .i64 xa1]) w := by kernel_rfl
theorem ok (h : wp aa0 xa1 w Q) : Calls Try.prog 31 #[.pointer (some aa0), .int .i64 xa1] w Q := by
 rw [wp_eq] at h
 refine calls_of_codeW (c := body) (rs := [.cell 4 60, .tmp 5]) Try.func31 ?_ ?_ ?_ ?_ ?_ (tab_snd (by
  intro x hx
  simp only [tb, List.not_mem_nil] at hx
  )) ?_ h <;> kernel_rfl
end f_span_Forest_reach
namespace f_ref16_AddV
noncomputable def body : Code := (Try.f18.body).getD .skip
def wp (Aa0_0 : Option Addr) (na0_0 ca0_0 : Nat) (Aa0_1 : Option Addr) (na0_1 ca0_1 : Nat) (Aa0_2 : Option Addr) (na0_2 ca0_2 : Nat) (Aa0_3 : Option Addr) (na0_3 ca0_3 : Nat) (xa1 : Int) (w : World) (Q : Ending → World → Prop) : Prop := alW w (.cells #[.slice Aa0_0 na0_0 ca0_0, .slice Aa0_1 na0_1 ca0_1, .slice Aa0_2 na0_2 ca0_2, .slice Aa0_3 na0_3 ca0_3] 31) fun B1 w2 => alW w2 (.cells #[.slice none 0 0, .slice none 0 0, .slice none 0 0, .slice none 0 0] 31) fun B3 w4 => Calls Try.prog 40 #[.int .i64 xa1] w4 fun e5 w6 => ∃ b7, e5 = .returned (.bool b7) ∧ (sel b7 (ldS w6 ⟨B1, 0, none⟩ fun A8 n8 c8 => ldS w6 (.add ⟨B1, 0, none⟩ 1) fun A9 n9 c9 => ldS w6 (.add ⟨B1, 0, none⟩ 2) fun A10 n10 c10 => ldS w6 (.add ⟨B1, 0, none⟩ 3) fun A11 n11 c11 => stW w6 ⟨B3, 0, none⟩ (.slice A8 n8 c8) fun w12 => stW w12 (.add ⟨B3, 0, none⟩ 1) (.slice A9 n9 c9) fun w13 => stW w13 (.add ⟨B3, 0, none⟩ 2) (.slice A10 n10 c10) fun w14 => stW w14 (.add ⟨B3, 0, none⟩ 3) (.slice A11 n11 c11) fun w15 => ldS w15 ⟨B3, 0, none⟩ fun A16 n16 c16 => ldS w15 (.add ⟨B3, 0, none⟩ 1) fun A17 n17 c17 => ldS w15 (.add ⟨B3, 0, none⟩ 2) fun A18 n18 c18 => ldS w15 (.add ⟨B3, 0, none⟩ 3) fun A19 n19 c19 => Q (.returned (.tuple #[.agg #[.slice A16 n16 c16, .slice A17 n17 c17, .slice A18 n18 c18, .slice A19 n19 c19], .int .i64 1])) w15) (ldS w6 ⟨B1, 0, none⟩ fun A20 n20 c20 => Calls Try.prog 27 #[.slice A20 n20 c20, .int .i64 xa1] w6 fun e21 w22 => ∃ b23, e21 = .returned (.bool b23) ∧ (sel b23 (ldS w22 ⟨B1, 0, none⟩ fun A24 n24 c24 => ldS w22 (.add ⟨B1, 0, none⟩ 1) fun A25 n25 c25 => ldS w22 (.add ⟨B1, 0, none⟩ 2) fun A26 n26 c26 => ldS w22 (.add ⟨B1, 0, none⟩ 3) fun A27 n27 c27 => stW w22 ⟨B3, 0, none⟩ (.slice A24 n24 c24) fun w28 => stW w28 (.add ⟨B3, 0, none⟩ 1) (.slice A25 n25 c25) fun w29 => stW w29 (.add ⟨B3, 0, none⟩ 2) (.slice A26 n26 c26) fun w30 => stW w30 (.add ⟨B3, 0, none⟩ 3) (.slice A27 n27 c27) fun w31 => ldS w31 ⟨B3, 0, none⟩ fun A32 n32 c32 => ldS w31 (.add ⟨B3, 0, none⟩ 1) fun A33 n33 c33 => ldS w31 (.add ⟨B3, 0, none⟩ 2) fun A34 n34 c34 => ldS w31 (.add ⟨B3, 0, none⟩ 3) fun A35 n35 c35 => Q (.returned (.tuple #[.agg #[.slice A32 n32 c32, .slice A33 n33 c33, .slice A34 n34 c34, .slice A35 n35 c35], .int .i64 50])) w31) (ldS w22 ⟨B1, 0, none⟩ fun A36 n36 c36 => sel (decide ((n36 : Int) ≥ 2048)) (ldS w22 ⟨B1, 0, none⟩ fun A37 n37 c37 => ldS w22 (.add ⟨B1, 0, none⟩ 1) fun A38 n38 c38 => ldS w22 (.add ⟨B1, 0, none⟩ 2) fun A39 n39 c39 => ldS w22 (.add ⟨B1, 0, none⟩ 3) fun A40 n40 c40 => stW w22 ⟨B3, 0, none⟩ (.slice A37 n37 c37) fun w41 => stW w41 (.add ⟨B3, 0, none⟩ 1) (.slice A38 n38 c38) fun w42 => stW w42 (.add ⟨B3, 0, none⟩ 2) (.slice A39 n39 c39) fun w43 => stW w43 (.add ⟨B3, 0, none⟩ 3) (.slice A40 n40 c40) fun w44 => ldS w44 ⟨B3, 0, none⟩ fun A45 n45 c45 => ldS w44 (.add ⟨B3, 0, none⟩ 1) fun A46 n46 c46 => ldS w44 (.add ⟨B3, 0, none⟩ 2) fun A47 n47 c47 => ldS w44 (.add ⟨B3, 0, none⟩ 3) fun A48 n48 c48 => Q (.returned (.tuple #[.agg #[.slice A45 n45 c45, .slice A46 n46 c46, .slice A47 n47 c47, .slice A48 n48 c48], .int .i64 55])) w44) (drW w22 fun w49 => ∃ S50 : World → Prop, S50 w49 ∧ (hdS S50 ⟨B1, 0, none⟩ fun A51 n51 c51 => hdS S50 (.add ⟨B1, 0, none⟩ 1) fun A52 n52 c52 => Calls Try.prog 41 #[.slice A51 n51 c51, .int .i64 xa1] w49 fun e53 w54 => ∃ A55 n55 c55, e53 = .returned (.slice A55 n55 c55) ∧ (S50 w54 ∧ (stW w54 ⟨B1, 0, none⟩ (.slice A55 n55 c55) fun w56 => stW w56 (.add ⟨B1, 0, none⟩ 1) (.slice A52 n52 c52) fun w57 => ldS w57 ⟨B1, 0, none⟩ fun A58 n58 c58 => ldS w57 (.add ⟨B1, 0, none⟩ 1) fun A59 n59 c59 => ldS w57 (.add ⟨B1, 0, none⟩ 2) fun A60 n60 c60 => ldS w57 (.add ⟨B1, 0, none⟩ 3) fun A61 n61 c61 => stW w57 ⟨B3, 0, none⟩ (.slice A58 n58 c58) fun w62 => stW w62 (.add ⟨B3, 0, none⟩ 1) (.slice A59 n59 c59) fun w63 => stW w63 (.add ⟨B3, 0, none⟩ 2) (.slice A60 n60 c60) fun w64 => stW w64 (.add ⟨B3, 0, none⟩ 3) (.slice A61 n61 c61) fun w65 => ldS w65 ⟨B3, 0, none⟩ fun A66 n66 c66 => ldS w65 (.add ⟨B3, 0, none⟩ 1) fun A67 n67 c67 => ldS w65 (.add ⟨B3, 0, none⟩ 2) fun A68 n68 c68 => ldS w65 (.add ⟨B3, 0, none⟩ 3) fun A69 n69 c69 => Q (.returned (.tuple #[.agg #[.slice A66 n66 c66, .slice A67 n67 c67, .slice A68 n68 c68, .slice A69 n69 c69], .int .i64 0])) w65))))))))
def D : Nat → Option DH := dtab [(7, .held [.fst 0, .fst 1, .fst 2, .fst 3, .fst 5, .fst 6, .fst 7, .eff 4] [.fst 8, .fst 9, .eff 10])]
def tb : List (List Nat × Spec) := []
variable (Aa0_0 : Option Addr) (na0_0 ca0_0 : Nat) (Aa0_1 : Option Addr) (na0_1 ca0_1 : Nat) (Aa0_2 : Option Addr) (na0_2 ca0_2 : Nat) (Aa0_3 : Option Addr) (na0_3 ca0_3 : Nat) (xa1 : Int) (w : World) (Q : Ending → World → Prop)
theorem wp_eq : wp Aa0_0 na0_0 ca0_0 Aa0_1 na0_1 ca0_1 Aa0_2 na0_2 ca0_2 Aa0_3 na0_3 ca0_3 xa1 w Q = codeW Try.prog hT 32 D (tab tb) [] body (topQ Try.prog hT 32 [.cell 4 31, .tmp 5] Q) (argsF [.agg #[.slice Aa0_0 na0_0 ca0_0, .slice Aa0_1 na0_1 ca0_1, .slice Aa0_2 na0_2 ca0_2, .slice Aa0_3 na0_3 ca0_3], .int .i64 xa1]) w := by kernel_rfl
theorem ok (h : wp Aa0_0 na0_0 ca0_0 Aa0_1 na0_1 ca0_1 Aa0_2 na0_2 ca0_2 Aa0_3 na0_3 ca0_3 xa1 w Q) : Calls Try.prog 18 #[.agg #[.slice Aa0_0 na0_0 ca0_0, .slice Aa0_1 na0_1 ca0_1, .slice Aa0_2 na0_2 ca0_2, .slice Aa0_3 na0_3 ca0_3], .int .i64 xa1] w Q := by
 rw [wp_eq] at h
 refine calls_of_codeW (c := body) (rs := [.cell 4 31, .tmp 5]) Try.func18 ?_ ?_ ?_ ?_ ?_ (tab_snd (by
  intro x hx
  simp only [tb, List.not_mem_nil] at hx
  )) ?_ h <;> kernel_rfl
end f_ref16_AddV
namespace f_ref16_DelV
noncomputable def body : Code := (Try.f19.body).getD .skip
def l0 : Nat → Int → Addr → Addr → Int → World → (World → Prop) → (Int → World → Prop) → Prop | 0, _, _, _, _, _, _, _ => False | k + 1, xt1, at2, at4, xt6, w, K0, Kr => ldS w (at2.add 1) fun A36 n36 c36 => sel (decide (xt6 < (n36 : Int))) (ldS w (at2.add 1) fun A37 n37 c37 => optB A37 fun a38 => req (decide (0 ≤ xt6 ∧ xt6 < (n37 : Int))) <| ldI w ((a38.add (xt6.toNat * 4)).add 1) .i64 fun x39 => sel (x39 == xt1) (ldS w at2 fun A40 n40 c40 => ldS w (at2.add 1) fun A41 n41 c41 => ldS w (at2.add 2) fun A42 n42 c42 => ldS w (at2.add 3) fun A43 n43 c43 => stW w at4 (.slice A40 n40 c40) fun w44 => stW w44 (at4.add 1) (.slice A41 n41 c41) fun w45 => stW w45 (at4.add 2) (.slice A42 n42 c42) fun w46 => stW w46 (at4.add 3) (.slice A43 n43 c43) fun w47 => Kr 52 w47) (ldS w (at2.add 1) fun A48 n48 c48 => optB A48 fun a49 => req (decide (0 ≤ xt6 ∧ xt6 < (n48 : Int))) <| ldI w ((a49.add (xt6.toNat * 4)).add 2) .i64 fun x50 => sel (x50 == xt1) (ldS w at2 fun A51 n51 c51 => ldS w (at2.add 1) fun A52 n52 c52 => ldS w (at2.add 2) fun A53 n53 c53 => ldS w (at2.add 3) fun A54 n54 c54 => stW w at4 (.slice A51 n51 c51) fun w55 => stW w55 (at4.add 1) (.slice A52 n52 c52) fun w56 => stW w56 (at4.add 2) (.slice A53 n53 c53) fun w57 => stW w57 (at4.add 3) (.slice A54 n54 c54) fun w58 => Kr 52 w58) (l0 k xt1 at2 at4 (IntKind.i64.wrap (xt6 + 1)) w K0 Kr))) (K0 w)
def wp (Aa0_0 : Option Addr) (na0_0 ca0_0 : Nat) (Aa0_1 : Option Addr) (na0_1 ca0_1 : Nat) (Aa0_2 : Option Addr) (na0_2 ca0_2 : Nat) (Aa0_3 : Option Addr) (na0_3 ca0_3 : Nat) (xa1 : Int) (w : World) (Q : Ending → World → Prop) : Prop := alW w (.cells #[.slice Aa0_0 na0_0 ca0_0, .slice Aa0_1 na0_1 ca0_1, .slice Aa0_2 na0_2 ca0_2, .slice Aa0_3 na0_3 ca0_3] 31) fun B1 w2 => alW w2 (.cells #[.slice none 0 0, .slice none 0 0, .slice none 0 0, .slice none 0 0] 31) fun B3 w4 => Calls Try.prog 40 #[.int .i64 xa1] w4 fun e5 w6 => ∃ b7, e5 = .returned (.bool b7) ∧ (sel b7 (ldS w6 ⟨B1, 0, none⟩ fun A8 n8 c8 => ldS w6 (.add ⟨B1, 0, none⟩ 1) fun A9 n9 c9 => ldS w6 (.add ⟨B1, 0, none⟩ 2) fun A10 n10 c10 => ldS w6 (.add ⟨B1, 0, none⟩ 3) fun A11 n11 c11 => stW w6 ⟨B3, 0, none⟩ (.slice A8 n8 c8) fun w12 => stW w12 (.add ⟨B3, 0, none⟩ 1) (.slice A9 n9 c9) fun w13 => stW w13 (.add ⟨B3, 0, none⟩ 2) (.slice A10 n10 c10) fun w14 => stW w14 (.add ⟨B3, 0, none⟩ 3) (.slice A11 n11 c11) fun w15 => ldS w15 ⟨B3, 0, none⟩ fun A16 n16 c16 => ldS w15 (.add ⟨B3, 0, none⟩ 1) fun A17 n17 c17 => ldS w15 (.add ⟨B3, 0, none⟩ 2) fun A18 n18 c18 => ldS w15 (.add ⟨B3, 0, none⟩ 3) fun A19 n19 c19 => Q (.returned (.tuple #[.agg #[.slice A16 n16 c16, .slice A17 n17 c17, .slice A18 n18 c18, .slice A19 n19 c19], .int .i64 1])) w15) (ldS w6 ⟨B1, 0, none⟩ fun A20 n20 c20 => Calls Try.prog 27 #[.slice A20 n20 c20, .int .i64 xa1] w6 fun e21 w22 => ∃ b23, e21 = .returned (.bool b23) ∧ (sel (!b23) (ldS w22 ⟨B1, 0, none⟩ fun A24 n24 c24 => ldS w22 (.add ⟨B1, 0, none⟩ 1) fun A25 n25 c25 => ldS w22 (.add ⟨B1, 0, none⟩ 2) fun A26 n26 c26 => ldS w22 (.add ⟨B1, 0, none⟩ 3) fun A27 n27 c27 => stW w22 ⟨B3, 0, none⟩ (.slice A24 n24 c24) fun w28 => stW w28 (.add ⟨B3, 0, none⟩ 1) (.slice A25 n25 c25) fun w29 => stW w29 (.add ⟨B3, 0, none⟩ 2) (.slice A26 n26 c26) fun w30 => stW w30 (.add ⟨B3, 0, none⟩ 3) (.slice A27 n27 c27) fun w31 => ldS w31 ⟨B3, 0, none⟩ fun A32 n32 c32 => ldS w31 (.add ⟨B3, 0, none⟩ 1) fun A33 n33 c33 => ldS w31 (.add ⟨B3, 0, none⟩ 2) fun A34 n34 c34 => ldS w31 (.add ⟨B3, 0, none⟩ 3) fun A35 n35 c35 => Q (.returned (.tuple #[.agg #[.slice A32 n32 c32, .slice A33 n33 c33, .slice A34 n34 c34, .slice A35 n35 c35], .int .i64 51])) w31) (∃ k92, l0 k92 xa1 ⟨B1, 0, none⟩ ⟨B3, 0, none⟩ 0 w22 (fun w59 => ∀ _ : Fr, drW w59 fun w60 => ∃ S61 : World → Prop, S61 w60 ∧ (hdS S61 ⟨B1, 0, none⟩ fun A62 n62 c62 => hdS S61 (.add ⟨B1, 0, none⟩ 1) fun A63 n63 c63 => Calls Try.prog 42 #[.slice A62 n62 c62, .int .i64 xa1] w60 fun e64 w65 => ∃ A66 n66 c66, e64 = .returned (.slice A66 n66 c66) ∧ (S61 w65 ∧ (stW w65 ⟨B1, 0, none⟩ (.slice A66 n66 c66) fun w67 => stW w67 (.add ⟨B1, 0, none⟩ 1) (.slice A63 n63 c63) fun w68 => ldS w68 (.add ⟨B1, 0, none⟩ 2) fun A69 n69 c69 => Calls Try.prog 42 #[.slice A69 n69 c69, .int .i64 xa1] w68 fun e70 w71 => ∃ A72 n72 c72, e70 = .returned (.slice A72 n72 c72) ∧ (stW w71 (.add ⟨B1, 0, none⟩ 2) (.slice A72 n72 c72) fun w73 => ldS w73 ⟨B1, 0, none⟩ fun A74 n74 c74 => ldS w73 (.add ⟨B1, 0, none⟩ 1) fun A75 n75 c75 => ldS w73 (.add ⟨B1, 0, none⟩ 2) fun A76 n76 c76 => ldS w73 (.add ⟨B1, 0, none⟩ 3) fun A77 n77 c77 => stW w73 ⟨B3, 0, none⟩ (.slice A74 n74 c74) fun w78 => stW w78 (.add ⟨B3, 0, none⟩ 1) (.slice A75 n75 c75) fun w79 => stW w79 (.add ⟨B3, 0, none⟩ 2) (.slice A76 n76 c76) fun w80 => stW w80 (.add ⟨B3, 0, none⟩ 3) (.slice A77 n77 c77) fun w81 => ldS w81 ⟨B3, 0, none⟩ fun A82 n82 c82 => ldS w81 (.add ⟨B3, 0, none⟩ 1) fun A83 n83 c83 => ldS w81 (.add ⟨B3, 0, none⟩ 2) fun A84 n84 c84 => ldS w81 (.add ⟨B3, 0, none⟩ 3) fun A85 n85 c85 => Q (.returned (.tuple #[.agg #[.slice A82 n82 c82, .slice A83 n83 c83, .slice A84 n84 c84, .slice A85 n85 c85], .int .i64 0])) w81))))) (fun x86 w87 => ∀ _ : Fr, ldS w87 ⟨B3, 0, none⟩ fun A88 n88 c88 => ldS w87 (.add ⟨B3, 0, none⟩ 1) fun A89 n89 c89 => ldS w87 (.add ⟨B3, 0, none⟩ 2) fun A90 n90 c90 => ldS w87 (.add ⟨B3, 0, none⟩ 3) fun A91 n91 c91 => Q (.returned (.tuple #[.agg #[.slice A88 n88 c88, .slice A89 n89 c89, .slice A90 n90 c90, .slice A91 n91 c91], .int .i64 x86])) w87)))))
def D : Nat → Option DH := dtab [(10, .held [.fst 0, .fst 1, .fst 2, .fst 3, .fst 5, .fst 6, .fst 7, .eff 4] [.fst 8, .fst 9, .eff 10])]
def l0LO : LO := ⟨[], [4, 5], [(0, [1, 2, 4])], []⟩
def l0Tk (k : Nat) : Spec := fun Q σ w => gInt .i64 (σ 1) fun xt1 => gAd (σ 2) fun at2 => gAd (σ 4) fun at4 => gInt .i64 (σ 6) fun xt6 => l0 k xt1 at2 at4 xt6 w (fun w => ∀ d : Fr, Q (.exit 0) (ov d [(1, .int .i64 xt1), (2, .pointer (some at2)), (4, .pointer (some at4))]) w) (fun xq5 w => ∀ d : Fr, Q .ret (ov d [(4, .pointer (some at4)), (5, .int .i64 xq5)]) w)
def l0T : Spec := fun Q σ w => ∃ k, l0Tk k Q σ w
def l0tb : List (List Nat × Spec) := []
noncomputable def l0b : Code := (subC [0, 0, 1, 0, 1, 1, 1] body).getD .skip
theorem l0_eq (k : Nat) (xt1 : Int) (at2 at4 : Addr) (xt6 : Int) (Q : PQ) (σ : Fr) (w : World) : l0 (k + 1) xt1 at2 at4 xt6 w (fun w => ∀ d : Fr, Q (.exit 0) (ov d [(1, .int .i64 xt1), (2, .pointer (some at2)), (4, .pointer (some at4))]) w) (fun xq5 w => ∀ d : Fr, Q .ret (ov d [(4, .pointer (some at4)), (5, .int .i64 xq5)]) w) = codeW Try.prog hT 62 D (tab l0tb) [0, 0, 1, 0, 1, 1, 1] l0b (thenQ (l0Tk k Q) (widen l0LO Q)) (ov σ [(1, .int .i64 xt1), (2, .pointer (some at2)), (4, .pointer (some at4)), (6, .int .i64 xt6)]) w := by kernel_rfl
theorem l0_snd : ∀ c, subC [0, 1, 0, 1, 1, 1] body = some c → Snd Try.prog 62 c l0T := by
 refine loop_of (hT := hT) (D := D) (l := l0tb) (b := l0b) (lo := l0LO) (by kernel_rfl) (by
  intro x hx
  simp only [l0tb, List.not_mem_nil] at hx
  ) (by kernel_rfl) (by kernel_rfl) ?_ ?_
 ·intro Q σ w h
  unfold l0Tk at h
  obtain ⟨_, _, h⟩ := gInt_elim h
  obtain ⟨_, _, h⟩ := gAd_elim h
  obtain ⟨_, _, h⟩ := gAd_elim h
  obtain ⟨_, _, h⟩ := gInt_elim h
  exact h
 ·intro k Q σ w h
  unfold l0Tk at h
  obtain ⟨xt1, h1, h⟩ := gInt_elim h
  obtain ⟨at2, h2, h⟩ := gAd_elim h
  obtain ⟨at4, h4, h⟩ := gAd_elim h
  obtain ⟨xt6, h6, h⟩ := gInt_elim h
  rw [l0_eq (σ := σ)] at h
  have e : (ov σ [(1, .int .i64 xt1), (2, .pointer (some at2)), (4, .pointer (some at4)), (6, .int .i64 xt6)]) = σ := ov_self (by simp [h1, h2, h4, h6])
  rw [e] at h
  exact h
def tb : List (List Nat × Spec) := [([0, 1, 0, 1, 1, 1], l0T)]
variable (Aa0_0 : Option Addr) (na0_0 ca0_0 : Nat) (Aa0_1 : Option Addr) (na0_1 ca0_1 : Nat) (Aa0_2 : Option Addr) (na0_2 ca0_2 : Nat) (Aa0_3 : Option Addr) (na0_3 ca0_3 : Nat) (xa1 : Int) (w : World) (Q : Ending → World → Prop)
theorem wp_eq : wp Aa0_0 na0_0 ca0_0 Aa0_1 na0_1 ca0_1 Aa0_2 na0_2 ca0_2 Aa0_3 na0_3 ca0_3 xa1 w Q = codeW Try.prog hT 62 D (tab tb) [] body (topQ Try.prog hT 62 [.cell 4 31, .tmp 5] Q) (argsF [.agg #[.slice Aa0_0 na0_0 ca0_0, .slice Aa0_1 na0_1 ca0_1, .slice Aa0_2 na0_2 ca0_2, .slice Aa0_3 na0_3 ca0_3], .int .i64 xa1]) w := by kernel_rfl
theorem ok (h : wp Aa0_0 na0_0 ca0_0 Aa0_1 na0_1 ca0_1 Aa0_2 na0_2 ca0_2 Aa0_3 na0_3 ca0_3 xa1 w Q) : Calls Try.prog 19 #[.agg #[.slice Aa0_0 na0_0 ca0_0, .slice Aa0_1 na0_1 ca0_1, .slice Aa0_2 na0_2 ca0_2, .slice Aa0_3 na0_3 ca0_3], .int .i64 xa1] w Q := by
 rw [wp_eq] at h
 refine calls_of_codeW (c := body) (rs := [.cell 4 31, .tmp 5]) Try.func19 ?_ ?_ ?_ ?_ ?_ (tab_snd (by
  intro x hx
  simp only [tb, List.mem_cons, List.not_mem_nil, or_false] at hx
  subst hx
  exact l0_snd)) ?_ h <;> kernel_rfl
end f_ref16_DelV
namespace f_ref17_Link
noncomputable def body : Code := (Try.f20.body).getD .skip
def wp (Aa0_0 : Option Addr) (na0_0 ca0_0 : Nat) (Aa0_1 : Option Addr) (na0_1 ca0_1 : Nat) (Aa0_2 : Option Addr) (na0_2 ca0_2 : Nat) (Aa0_3 : Option Addr) (na0_3 ca0_3 : Nat) (xa1_0 xa1_1 xa1_2 xa1_3 : Int) (w : World) (Q : Ending → World → Prop) : Prop := alW w (.cells #[.slice Aa0_0 na0_0 ca0_0, .slice Aa0_1 na0_1 ca0_1, .slice Aa0_2 na0_2 ca0_2, .slice Aa0_3 na0_3 ca0_3] 31) fun B1 w2 => alW w2 (.cells #[.int .i64 xa1_0, .int .i64 xa1_1, .int .i64 xa1_2, .int .i64 xa1_3] 33) fun B3 w4 => alW w4 (.cells #[.slice none 0 0, .slice none 0 0, .slice none 0 0, .slice none 0 0] 31) fun B5 w6 => ldI w6 ⟨B3, 0, none⟩ .i64 fun x7 => Calls Try.prog 40 #[.int .i64 x7] w6 fun e8 w9 => ∃ b10, e8 = .returned (.bool b10) ∧ (sel b10 (ldS w9 ⟨B1, 0, none⟩ fun A11 n11 c11 => ldS w9 (.add ⟨B1, 0, none⟩ 1) fun A12 n12 c12 => ldS w9 (.add ⟨B1, 0, none⟩ 2) fun A13 n13 c13 => ldS w9 (.add ⟨B1, 0, none⟩ 3) fun A14 n14 c14 => stW w9 ⟨B5, 0, none⟩ (.slice A11 n11 c11) fun w15 => stW w15 (.add ⟨B5, 0, none⟩ 1) (.slice A12 n12 c12) fun w16 => stW w16 (.add ⟨B5, 0, none⟩ 2) (.slice A13 n13 c13) fun w17 => stW w17 (.add ⟨B5, 0, none⟩ 3) (.slice A14 n14 c14) fun w18 => ldS w18 ⟨B5, 0, none⟩ fun A19 n19 c19 => ldS w18 (.add ⟨B5, 0, none⟩ 1) fun A20 n20 c20 => ldS w18 (.add ⟨B5, 0, none⟩ 2) fun A21 n21 c21 => ldS w18 (.add ⟨B5, 0, none⟩ 3) fun A22 n22 c22 => Q (.returned (.tuple #[.agg #[.slice A19 n19 c19, .slice A20 n20 c20, .slice A21 n21 c21, .slice A22 n22 c22], .int .i64 1])) w18) (ldI w9 (.add ⟨B3, 0, none⟩ 1) .i64 fun x23 => Calls Try.prog 40 #[.int .i64 x23] w9 fun e24 w25 => ∃ b26, e24 = .returned (.bool b26) ∧ (sel b26 (ldS w25 ⟨B1, 0, none⟩ fun A27 n27 c27 => ldS w25 (.add ⟨B1, 0, none⟩ 1) fun A28 n28 c28 => ldS w25 (.add ⟨B1, 0, none⟩ 2) fun A29 n29 c29 => ldS w25 (.add ⟨B1, 0, none⟩ 3) fun A30 n30 c30 => stW w25 ⟨B5, 0, none⟩ (.slice A27 n27 c27) fun w31 => stW w31 (.add ⟨B5, 0, none⟩ 1) (.slice A28 n28 c28) fun w32 => stW w32 (.add ⟨B5, 0, none⟩ 2) (.slice A29 n29 c29) fun w33 => stW w33 (.add ⟨B5, 0, none⟩ 3) (.slice A30 n30 c30) fun w34 => ldS w34 ⟨B5, 0, none⟩ fun A35 n35 c35 => ldS w34 (.add ⟨B5, 0, none⟩ 1) fun A36 n36 c36 => ldS w34 (.add ⟨B5, 0, none⟩ 2) fun A37 n37 c37 => ldS w34 (.add ⟨B5, 0, none⟩ 3) fun A38 n38 c38 => Q (.returned (.tuple #[.agg #[.slice A35 n35 c35, .slice A36 n36 c36, .slice A37 n37 c37, .slice A38 n38 c38], .int .i64 1])) w34) (ldI w25 (.add ⟨B3, 0, none⟩ 2) .i64 fun x39 => Calls Try.prog 40 #[.int .i64 x39] w25 fun e40 w41 => ∃ b42, e40 = .returned (.bool b42) ∧ (sel b42 (ldS w41 ⟨B1, 0, none⟩ fun A43 n43 c43 => ldS w41 (.add ⟨B1, 0, none⟩ 1) fun A44 n44 c44 => ldS w41 (.add ⟨B1, 0, none⟩ 2) fun A45 n45 c45 => ldS w41 (.add ⟨B1, 0, none⟩ 3) fun A46 n46 c46 => stW w41 ⟨B5, 0, none⟩ (.slice A43 n43 c43) fun w47 => stW w47 (.add ⟨B5, 0, none⟩ 1) (.slice A44 n44 c44) fun w48 => stW w48 (.add ⟨B5, 0, none⟩ 2) (.slice A45 n45 c45) fun w49 => stW w49 (.add ⟨B5, 0, none⟩ 3) (.slice A46 n46 c46) fun w50 => ldS w50 ⟨B5, 0, none⟩ fun A51 n51 c51 => ldS w50 (.add ⟨B5, 0, none⟩ 1) fun A52 n52 c52 => ldS w50 (.add ⟨B5, 0, none⟩ 2) fun A53 n53 c53 => ldS w50 (.add ⟨B5, 0, none⟩ 3) fun A54 n54 c54 => Q (.returned (.tuple #[.agg #[.slice A51 n51 c51, .slice A52 n52 c52, .slice A53 n53 c53, .slice A54 n54 c54], .int .i64 1])) w50) (ldI w41 (.add ⟨B3, 0, none⟩ 3) .i64 fun x55 => sel (decide (x55 < 0)) (ldS w41 ⟨B1, 0, none⟩ fun A56 n56 c56 => ldS w41 (.add ⟨B1, 0, none⟩ 1) fun A57 n57 c57 => ldS w41 (.add ⟨B1, 0, none⟩ 2) fun A58 n58 c58 => ldS w41 (.add ⟨B1, 0, none⟩ 3) fun A59 n59 c59 => stW w41 ⟨B5, 0, none⟩ (.slice A56 n56 c56) fun w60 => stW w60 (.add ⟨B5, 0, none⟩ 1) (.slice A57 n57 c57) fun w61 => stW w61 (.add ⟨B5, 0, none⟩ 2) (.slice A58 n58 c58) fun w62 => stW w62 (.add ⟨B5, 0, none⟩ 3) (.slice A59 n59 c59) fun w63 => ldS w63 ⟨B5, 0, none⟩ fun A64 n64 c64 => ldS w63 (.add ⟨B5, 0, none⟩ 1) fun A65 n65 c65 => ldS w63 (.add ⟨B5, 0, none⟩ 2) fun A66 n66 c66 => ldS w63 (.add ⟨B5, 0, none⟩ 3) fun A67 n67 c67 => Q (.returned (.tuple #[.agg #[.slice A64 n64 c64, .slice A65 n65 c65, .slice A66 n66 c66, .slice A67 n67 c67], .int .i64 53])) w63) (ldI w41 (.add ⟨B3, 0, none⟩ 3) .i64 fun x68 => sel (decide (x68 > 1099511627776)) (ldS w41 ⟨B1, 0, none⟩ fun A69 n69 c69 => ldS w41 (.add ⟨B1, 0, none⟩ 1) fun A70 n70 c70 => ldS w41 (.add ⟨B1, 0, none⟩ 2) fun A71 n71 c71 => ldS w41 (.add ⟨B1, 0, none⟩ 3) fun A72 n72 c72 => stW w41 ⟨B5, 0, none⟩ (.slice A69 n69 c69) fun w73 => stW w73 (.add ⟨B5, 0, none⟩ 1) (.slice A70 n70 c70) fun w74 => stW w74 (.add ⟨B5, 0, none⟩ 2) (.slice A71 n71 c71) fun w75 => stW w75 (.add ⟨B5, 0, none⟩ 3) (.slice A72 n72 c72) fun w76 => ldS w76 ⟨B5, 0, none⟩ fun A77 n77 c77 => ldS w76 (.add ⟨B5, 0, none⟩ 1) fun A78 n78 c78 => ldS w76 (.add ⟨B5, 0, none⟩ 2) fun A79 n79 c79 => ldS w76 (.add ⟨B5, 0, none⟩ 3) fun A80 n80 c80 => Q (.returned (.tuple #[.agg #[.slice A77 n77 c77, .slice A78 n78 c78, .slice A79 n79 c79, .slice A80 n80 c80], .int .i64 53])) w76) (ldS w41 ⟨B1, 0, none⟩ fun A81 n81 c81 => ldS w41 (.add ⟨B1, 0, none⟩ 1) fun A82 n82 c82 => ldS w41 (.add ⟨B1, 0, none⟩ 2) fun A83 n83 c83 => ldS w41 (.add ⟨B1, 0, none⟩ 3) fun A84 n84 c84 => ldI w41 ⟨B3, 0, none⟩ .i64 fun x85 => ldI w41 (.add ⟨B3, 0, none⟩ 1) .i64 fun x86 => ldI w41 (.add ⟨B3, 0, none⟩ 2) .i64 fun x87 => ldI w41 (.add ⟨B3, 0, none⟩ 3) .i64 fun x88 => Calls Try.prog 43 #[.agg #[.slice A81 n81 c81, .slice A82 n82 c82, .slice A83 n83 c83, .slice A84 n84 c84], .agg #[.int .i64 x85, .int .i64 x86, .int .i64 x87, .int .i64 x88]] w41 fun e89 w90 => ∃ A91_0_0 n91_0_0 c91_0_0 A91_0_1 n91_0_1 c91_0_1 A91_0_2 n91_0_2 c91_0_2 A91_0_3 n91_0_3 c91_0_3 x91_1, e89 = .returned (.tuple #[.agg #[.slice A91_0_0 n91_0_0 c91_0_0, .slice A91_0_1 n91_0_1 c91_0_1, .slice A91_0_2 n91_0_2 c91_0_2, .slice A91_0_3 n91_0_3 c91_0_3], .int .i64 x91_1]) ∧ (stW w90 ⟨B5, 0, none⟩ (.slice A91_0_0 n91_0_0 c91_0_0) fun w92 => stW w92 (.add ⟨B5, 0, none⟩ 1) (.slice A91_0_1 n91_0_1 c91_0_1) fun w93 => stW w93 (.add ⟨B5, 0, none⟩ 2) (.slice A91_0_2 n91_0_2 c91_0_2) fun w94 => stW w94 (.add ⟨B5, 0, none⟩ 3) (.slice A91_0_3 n91_0_3 c91_0_3) fun w95 => ldS w95 ⟨B5, 0, none⟩ fun A96 n96 c96 => ldS w95 (.add ⟨B5, 0, none⟩ 1) fun A97 n97 c97 => ldS w95 (.add ⟨B5, 0, none⟩ 2) fun A98 n98 c98 => ldS w95 (.add ⟨B5, 0, none⟩ 3) fun A99 n99 c99 => Q (.returned (.tuple #[.agg #[.slice A96 n96 c96, .slice A97 n97 c97, .slice A98 n98 c98, .slice A99 n99 c99], .int .i64 x91_1])) w95)))))))))
def D : Nat → Option DH := dtab []
def tb : List (List Nat × Spec) := []
variable (Aa0_0 : Option Addr) (na0_0 ca0_0 : Nat) (Aa0_1 : Option Addr) (na0_1 ca0_1 : Nat) (Aa0_2 : Option Addr) (na0_2 ca0_2 : Nat) (Aa0_3 : Option Addr) (na0_3 ca0_3 : Nat) (xa1_0 xa1_1 xa1_2 xa1_3 : Int) (w : World) (Q : Ending → World → Prop)
theorem wp_eq : wp Aa0_0 na0_0 ca0_0 Aa0_1 na0_1 ca0_1 Aa0_2 na0_2 ca0_2 Aa0_3 na0_3 ca0_3 xa1_0 xa1_1 xa1_2 xa1_3 w Q = codeW Try.prog hT 34 D (tab tb) [] body (topQ Try.prog hT 34 [.cell 4 31, .tmp 5] Q) (argsF [.agg #[.slice Aa0_0 na0_0 ca0_0, .slice Aa0_1 na0_1 ca0_1, .slice Aa0_2 na0_2 ca0_2, .slice Aa0_3 na0_3 ca0_3], .agg #[.int .i64 xa1_0, .int .i64 xa1_1, .int .i64 xa1_2, .int .i64 xa1_3]]) w := by kernel_rfl
theorem ok (h : wp Aa0_0 na0_0 ca0_0 Aa0_1 na0_1 ca0_1 Aa0_2 na0_2 ca0_2 Aa0_3 na0_3 ca0_3 xa1_0 xa1_1 xa1_2 xa1_3 w Q) : Calls Try.prog 20 #[.agg #[.slice Aa0_0 na0_0 ca0_0, .slice Aa0_1 na0_1 ca0_1, .slice Aa0_2 na0_2 ca0_2, .slice Aa0_3 na0_3 ca0_3], .agg #[.int .i64 xa1_0, .int .i64 xa1_1, .int .i64 xa1_2, .int .i64 xa1_3]] w Q := by
 rw [wp_eq] at h
 refine calls_of_codeW (c := body) (rs := [.cell 4 31, .tmp 5]) Try.func20 ?_ ?_ ?_ ?_ ?_ (tab_snd (by
  intro x hx
  simp only [tb, List.not_mem_nil] at hx
  )) ?_ h <;> kernel_rfl
end f_ref17_Link
namespace f_ref16_Cut
noncomputable def body : Code := (Try.f21.body).getD .skip
def l0 : Nat → Int → Addr → Addr → Int → World → (World → Prop) → Prop | 0, _, _, _, _, _, _ => False | k + 1, xt1, at2, at8, xt9, w, K0 => ldS w (at2.add 1) fun A50 n50 c50 => sel (decide (xt9 < (n50 : Int))) (ldS w (at2.add 1) fun A51 n51 c51 => optB A51 fun a52 => req (decide (0 ≤ xt9 ∧ xt9 < (n51 : Int))) <| ldI w (a52.add (xt9.toNat * 4)) .i64 fun x53 => sel (x53 != xt1) (drW w fun w54 => ∃ S55 : World → Prop, S55 w54 ∧ (hdS S55 (at8.add 1) fun A56 n56 c56 => hdS S55 (at2.add 1) fun A57 n57 c57 => optB A57 fun a58 => req (decide (0 ≤ xt9 ∧ xt9 < (n57 : Int))) <| hdI S55 (a58.add (xt9.toNat * 4)) .i64 fun x59 => hdI S55 ((a58.add (xt9.toNat * 4)).add 1) .i64 fun x60 => hdI S55 ((a58.add (xt9.toNat * 4)).add 2) .i64 fun x61 => hdI S55 ((a58.add (xt9.toNat * 4)).add 3) .i64 fun x62 => alW w54 (.cells #[.int .i64 x59, .int .i64 x60, .int .i64 x61, .int .i64 x62] 33) fun B63 w64 => S55 w64 ∧ (Runs Try.prog (Builtin.append_ #[27, 27] 27 #[.slice A56 n56 c56, .slice (some ⟨B63, 0, none⟩) 1 1]) w64 fun v66 w65 => ∃ A67 n67 c67, v66 = (.slice A67 n67 c67) ∧ (stW w65 (at8.add 1) (.slice A67 n67 c67) fun w68 => l0 k xt1 at2 at8 (IntKind.i64.wrap (xt9 + 1)) w68 K0)))) (l0 k xt1 at2 at8 (IntKind.i64.wrap (xt9 + 1)) w K0)) (K0 w)
def wp (Aa0_0 : Option Addr) (na0_0 ca0_0 : Nat) (Aa0_1 : Option Addr) (na0_1 ca0_1 : Nat) (Aa0_2 : Option Addr) (na0_2 ca0_2 : Nat) (Aa0_3 : Option Addr) (na0_3 ca0_3 : Nat) (xa1 : Int) (w : World) (Q : Ending → World → Prop) : Prop := alW w (.cells #[.slice Aa0_0 na0_0 ca0_0, .slice Aa0_1 na0_1 ca0_1, .slice Aa0_2 na0_2 ca0_2, .slice Aa0_3 na0_3 ca0_3] 31) fun B1 w2 => alW w2 (.cells #[.slice none 0 0, .slice none 0 0, .slice none 0 0, .slice none 0 0] 31) fun B3 w4 => Calls Try.prog 40 #[.int .i64 xa1] w4 fun e5 w6 => ∃ b7, e5 = .returned (.bool b7) ∧ (sel b7 (ldS w6 ⟨B1, 0, none⟩ fun A8 n8 c8 => ldS w6 (.add ⟨B1, 0, none⟩ 1) fun A9 n9 c9 => ldS w6 (.add ⟨B1, 0, none⟩ 2) fun A10 n10 c10 => ldS w6 (.add ⟨B1, 0, none⟩ 3) fun A11 n11 c11 => stW w6 ⟨B3, 0, none⟩ (.slice A8 n8 c8) fun w12 => stW w12 (.add ⟨B3, 0, none⟩ 1) (.slice A9 n9 c9) fun w13 => stW w13 (.add ⟨B3, 0, none⟩ 2) (.slice A10 n10 c10) fun w14 => stW w14 (.add ⟨B3, 0, none⟩ 3) (.slice A11 n11 c11) fun w15 => ldS w15 ⟨B3, 0, none⟩ fun A16 n16 c16 => ldS w15 (.add ⟨B3, 0, none⟩ 1) fun A17 n17 c17 => ldS w15 (.add ⟨B3, 0, none⟩ 2) fun A18 n18 c18 => ldS w15 (.add ⟨B3, 0, none⟩ 3) fun A19 n19 c19 => Q (.returned (.tuple #[.agg #[.slice A16 n16 c16, .slice A17 n17 c17, .slice A18 n18 c18, .slice A19 n19 c19], .int .i64 1])) w15) (ldS w6 ⟨B1, 0, none⟩ fun A20 n20 c20 => ldS w6 (.add ⟨B1, 0, none⟩ 1) fun A21 n21 c21 => ldS w6 (.add ⟨B1, 0, none⟩ 2) fun A22 n22 c22 => ldS w6 (.add ⟨B1, 0, none⟩ 3) fun A23 n23 c23 => Calls Try.prog 44 #[.agg #[.slice A20 n20 c20, .slice A21 n21 c21, .slice A22 n22 c22, .slice A23 n23 c23], .int .i64 xa1] w6 fun e24 w25 => ∃ x26_0_0 x26_0_1 x26_0_2 x26_0_3 b26_1, e24 = .returned (.tuple #[.agg #[.int .i64 x26_0_0, .int .i64 x26_0_1, .int .i64 x26_0_2, .int .i64 x26_0_3], .bool b26_1]) ∧ (alW w25 (.cells #[.int .i64 0, .int .i64 0, .int .i64 0, .int .i64 0] 33) fun B27 w28 => stW w28 ⟨B27, 0, none⟩ (.int .i64 x26_0_0) fun w29 => stW w29 (.add ⟨B27, 0, none⟩ 1) (.int .i64 x26_0_1) fun w30 => stW w30 (.add ⟨B27, 0, none⟩ 2) (.int .i64 x26_0_2) fun w31 => stW w31 (.add ⟨B27, 0, none⟩ 3) (.int .i64 x26_0_3) fun w32 => sel (!b26_1) (ldS w32 ⟨B1, 0, none⟩ fun A33 n33 c33 => ldS w32 (.add ⟨B1, 0, none⟩ 1) fun A34 n34 c34 => ldS w32 (.add ⟨B1, 0, none⟩ 2) fun A35 n35 c35 => ldS w32 (.add ⟨B1, 0, none⟩ 3) fun A36 n36 c36 => stW w32 ⟨B3, 0, none⟩ (.slice A33 n33 c33) fun w37 => stW w37 (.add ⟨B3, 0, none⟩ 1) (.slice A34 n34 c34) fun w38 => stW w38 (.add ⟨B3, 0, none⟩ 2) (.slice A35 n35 c35) fun w39 => stW w39 (.add ⟨B3, 0, none⟩ 3) (.slice A36 n36 c36) fun w40 => ldS w40 ⟨B3, 0, none⟩ fun A41 n41 c41 => ldS w40 (.add ⟨B3, 0, none⟩ 1) fun A42 n42 c42 => ldS w40 (.add ⟨B3, 0, none⟩ 2) fun A43 n43 c43 => ldS w40 (.add ⟨B3, 0, none⟩ 3) fun A44 n44 c44 => Q (.returned (.tuple #[.agg #[.slice A41 n41 c41, .slice A42 n42 c42, .slice A43 n43 c43, .slice A44 n44 c44], .int .i64 152])) w40) (ldS w32 ⟨B1, 0, none⟩ fun A45 n45 c45 => alW w32 (.cells #[.slice none 0 0, .slice none 0 0] 29) fun B46 w47 => stW w47 ⟨B46, 0, none⟩ (.slice A45 n45 c45) fun w48 => stW w48 (.add ⟨B46, 0, none⟩ 1) (.slice none 0 0) fun w49 => ∃ k91, l0 k91 xa1 ⟨B1, 0, none⟩ ⟨B46, 0, none⟩ 0 w49 (fun w69 => ∀ _ : Fr, ldS w69 ⟨B46, 0, none⟩ fun A70 n70 c70 => ldS w69 (.add ⟨B46, 0, none⟩ 1) fun A71 n71 c71 => stW w69 ⟨B1, 0, none⟩ (.slice A70 n70 c70) fun w72 => stW w72 (.add ⟨B1, 0, none⟩ 1) (.slice A71 n71 c71) fun w73 => ldS w73 (.add ⟨B1, 0, none⟩ 3) fun A74 n74 c74 => Calls Try.prog 42 #[.slice A74 n74 c74, .int .i64 xa1] w73 fun e75 w76 => ∃ A77 n77 c77, e75 = .returned (.slice A77 n77 c77) ∧ (stW w76 (.add ⟨B1, 0, none⟩ 3) (.slice A77 n77 c77) fun w78 => ldS w78 ⟨B1, 0, none⟩ fun A79 n79 c79 => ldS w78 (.add ⟨B1, 0, none⟩ 1) fun A80 n80 c80 => ldS w78 (.add ⟨B1, 0, none⟩ 2) fun A81 n81 c81 => ldS w78 (.add ⟨B1, 0, none⟩ 3) fun A82 n82 c82 => stW w78 ⟨B3, 0, none⟩ (.slice A79 n79 c79) fun w83 => stW w83 (.add ⟨B3, 0, none⟩ 1) (.slice A80 n80 c80) fun w84 => stW w84 (.add ⟨B3, 0, none⟩ 2) (.slice A81 n81 c81) fun w85 => stW w85 (.add ⟨B3, 0, none⟩ 3) (.slice A82 n82 c82) fun w86 => ldS w86 ⟨B3, 0, none⟩ fun A87 n87 c87 => ldS w86 (.add ⟨B3, 0, none⟩ 1) fun A88 n88 c88 => ldS w86 (.add ⟨B3, 0, none⟩ 2) fun A89 n89 c89 => ldS w86 (.add ⟨B3, 0, none⟩ 3) fun A90 n90 c90 => Q (.returned (.tuple #[.agg #[.slice A87 n87 c87, .slice A88 n88 c88, .slice A89 n89 c89, .slice A90 n90 c90], .int .i64 0])) w86))))))
def D : Nat → Option DH := dtab [(11, .held [.fst 0, .fst 1, .fst 2, .fst 3, .fst 4, .fst 5, .fst 6, .fst 7, .eff 8] [.eff 9, .fst 10, .eff 11])]
def l0LO : LO := ⟨[], [], [(0, [1, 2, 4, 8])], []⟩
def l0Tk (k : Nat) : Spec := fun Q σ w => gInt .i64 (σ 1) fun xt1 => gAd (σ 2) fun at2 => gAd (σ 8) fun at8 => gInt .i64 (σ 9) fun xt9 => l0 k xt1 at2 at8 xt9 w (fun w => ∀ d : Fr, Q (.exit 0) (ov d [(1, .int .i64 xt1), (2, .pointer (some at2)), (4, σ 4), (8, .pointer (some at8))]) w)
def l0T : Spec := fun Q σ w => ∃ k, l0Tk k Q σ w
def l0tb : List (List Nat × Spec) := []
noncomputable def l0b : Code := (subC [0, 0, 1, 0, 1, 1, 1, 1, 1] body).getD .skip
theorem l0_eq (k : Nat) (xt1 : Int) (at2 at8 : Addr) (xt9 : Int) (Q : PQ) (σ : Fr) (w : World) : l0 (k + 1) xt1 at2 at8 xt9 w (fun w => ∀ d : Fr, Q (.exit 0) (ov d [(1, .int .i64 xt1), (2, .pointer (some at2)), (4, σ 4), (8, .pointer (some at8))]) w) = codeW Try.prog hT 62 D (tab l0tb) [0, 0, 1, 0, 1, 1, 1, 1, 1] l0b (thenQ (l0Tk k Q) (widen l0LO Q)) (ov σ [(1, .int .i64 xt1), (2, .pointer (some at2)), (8, .pointer (some at8)), (9, .int .i64 xt9)]) w := by kernel_rfl
theorem l0_snd : ∀ c, subC [0, 1, 0, 1, 1, 1, 1, 1] body = some c → Snd Try.prog 62 c l0T := by
 refine loop_of (hT := hT) (D := D) (l := l0tb) (b := l0b) (lo := l0LO) (by kernel_rfl) (by
  intro x hx
  simp only [l0tb, List.not_mem_nil] at hx
  ) (by kernel_rfl) (by kernel_rfl) ?_ ?_
 ·intro Q σ w h
  unfold l0Tk at h
  obtain ⟨_, _, h⟩ := gInt_elim h
  obtain ⟨_, _, h⟩ := gAd_elim h
  obtain ⟨_, _, h⟩ := gAd_elim h
  obtain ⟨_, _, h⟩ := gInt_elim h
  exact h
 ·intro k Q σ w h
  unfold l0Tk at h
  obtain ⟨xt1, h1, h⟩ := gInt_elim h
  obtain ⟨at2, h2, h⟩ := gAd_elim h
  obtain ⟨at8, h8, h⟩ := gAd_elim h
  obtain ⟨xt9, h9, h⟩ := gInt_elim h
  rw [l0_eq (σ := σ)] at h
  have e : (ov σ [(1, .int .i64 xt1), (2, .pointer (some at2)), (8, .pointer (some at8)), (9, .int .i64 xt9)]) = σ := ov_self (by simp [h1, h2, h8, h9])
  rw [e] at h
  exact h
def tb : List (List Nat × Spec) := [([0, 1, 0, 1, 1, 1, 1, 1], l0T)]
variable (Aa0_0 : Option Addr) (na0_0 ca0_0 : Nat) (Aa0_1 : Option Addr) (na0_1 ca0_1 : Nat) (Aa0_2 : Option Addr) (na0_2 ca0_2 : Nat) (Aa0_3 : Option Addr) (na0_3 ca0_3 : Nat) (xa1 : Int) (w : World) (Q : Ending → World → Prop)
theorem wp_eq : wp Aa0_0 na0_0 ca0_0 Aa0_1 na0_1 ca0_1 Aa0_2 na0_2 ca0_2 Aa0_3 na0_3 ca0_3 xa1 w Q = codeW Try.prog hT 62 D (tab tb) [] body (topQ Try.prog hT 62 [.cell 4 31, .tmp 5] Q) (argsF [.agg #[.slice Aa0_0 na0_0 ca0_0, .slice Aa0_1 na0_1 ca0_1, .slice Aa0_2 na0_2 ca0_2, .slice Aa0_3 na0_3 ca0_3], .int .i64 xa1]) w := by kernel_rfl
theorem ok (h : wp Aa0_0 na0_0 ca0_0 Aa0_1 na0_1 ca0_1 Aa0_2 na0_2 ca0_2 Aa0_3 na0_3 ca0_3 xa1 w Q) : Calls Try.prog 21 #[.agg #[.slice Aa0_0 na0_0 ca0_0, .slice Aa0_1 na0_1 ca0_1, .slice Aa0_2 na0_2 ca0_2, .slice Aa0_3 na0_3 ca0_3], .int .i64 xa1] w Q := by
 rw [wp_eq] at h
 refine calls_of_codeW (c := body) (rs := [.cell 4 31, .tmp 5]) Try.func21 ?_ ?_ ?_ ?_ ?_ (tab_snd (by
  intro x hx
  simp only [tb, List.mem_cons, List.not_mem_nil, or_false] at hx
  subst hx
  exact l0_snd)) ?_ h <;> kernel_rfl
end f_ref16_Cut
namespace f_ref17_Along
noncomputable def body : Code := (Try.f26.body).getD .skip
def wp (Aa0_0 : Option Addr) (na0_0 ca0_0 : Nat) (Aa0_1 : Option Addr) (na0_1 ca0_1 : Nat) (Aa0_2 : Option Addr) (na0_2 ca0_2 : Nat) (Aa0_3 : Option Addr) (na0_3 ca0_3 : Nat) (xa1 xa2 : Int) (w : World) (Q : Ending → World → Prop) : Prop := alW w (.cells #[.slice Aa0_0 na0_0 ca0_0, .slice Aa0_1 na0_1 ca0_1, .slice Aa0_2 na0_2 ca0_2, .slice Aa0_3 na0_3 ca0_3] 31) fun B1 w2 => alW w2 (.cells #[.int .i64 0, .int .i64 0, .int .i64 0, .int .i64 0, .complex .f64 0 0] 69) fun B3 w4 => ldS w4 ⟨B1, 0, none⟩ fun A5 n5 c5 => Calls Try.prog 27 #[.slice A5 n5 c5, .int .i64 xa1] w4 fun e6 w7 => ∃ b8, e6 = .returned (.bool b8) ∧ (sel (!b8) (stW w7 ⟨B3, 0, none⟩ (.int .i64 0) fun w9 => stW w9 (.add ⟨B3, 0, none⟩ 1) (.int .i64 0) fun w10 => stW w10 (.add ⟨B3, 0, none⟩ 2) (.int .i64 0) fun w11 => stW w11 (.add ⟨B3, 0, none⟩ 3) (.int .i64 0) fun w12 => stW w12 (.add ⟨B3, 0, none⟩ 4) (.complex .f64 0 0) fun w13 => ldI w13 ⟨B3, 0, none⟩ .i64 fun x14 => ldI w13 (.add ⟨B3, 0, none⟩ 1) .i64 fun x15 => ldI w13 (.add ⟨B3, 0, none⟩ 2) .i64 fun x16 => ldI w13 (.add ⟨B3, 0, none⟩ 3) .i64 fun x17 => ldC w13 (.add ⟨B3, 0, none⟩ 4) .f64 fun r18 i18 => Q (.returned (.tuple #[.agg #[.int .i64 x14, .int .i64 x15, .int .i64 x16, .int .i64 x17, .complex .f64 r18 i18], .int .i64 51])) w13) (ldS w7 ⟨B1, 0, none⟩ fun A19 n19 c19 => Calls Try.prog 27 #[.slice A19 n19 c19, .int .i64 xa2] w7 fun e20 w21 => ∃ b22, e20 = .returned (.bool b22) ∧ (sel (!b22) (stW w21 ⟨B3, 0, none⟩ (.int .i64 0) fun w23 => stW w23 (.add ⟨B3, 0, none⟩ 1) (.int .i64 0) fun w24 => stW w24 (.add ⟨B3, 0, none⟩ 2) (.int .i64 0) fun w25 => stW w25 (.add ⟨B3, 0, none⟩ 3) (.int .i64 0) fun w26 => stW w26 (.add ⟨B3, 0, none⟩ 4) (.complex .f64 0 0) fun w27 => ldI w27 ⟨B3, 0, none⟩ .i64 fun x28 => ldI w27 (.add ⟨B3, 0, none⟩ 1) .i64 fun x29 => ldI w27 (.add ⟨B3, 0, none⟩ 2) .i64 fun x30 => ldI w27 (.add ⟨B3, 0, none⟩ 3) .i64 fun x31 => ldC w27 (.add ⟨B3, 0, none⟩ 4) .f64 fun r32 i32 => Q (.returned (.tuple #[.agg #[.int .i64 x28, .int .i64 x29, .int .i64 x30, .int .i64 x31, .complex .f64 r32 i32], .int .i64 51])) w27) (ldS w21 (.add ⟨B1, 0, none⟩ 1) fun A33 n33 c33 => Calls Try.prog 47 #[.slice A33 n33 c33, .int .i64 xa1, .int .i64 xa2] w21 fun e34 w35 => ∃ A36_0 n36_0 c36_0 b36_1, e34 = .returned (.tuple #[.slice A36_0 n36_0 c36_0, .bool b36_1]) ∧ (sel (!b36_1) (stW w35 ⟨B3, 0, none⟩ (.int .i64 0) fun w37 => stW w37 (.add ⟨B3, 0, none⟩ 1) (.int .i64 0) fun w38 => stW w38 (.add ⟨B3, 0, none⟩ 2) (.int .i64 0) fun w39 => stW w39 (.add ⟨B3, 0, none⟩ 3) (.int .i64 0) fun w40 => stW w40 (.add ⟨B3, 0, none⟩ 4) (.complex .f64 0 0) fun w41 => ldI w41 ⟨B3, 0, none⟩ .i64 fun x42 => ldI w41 (.add ⟨B3, 0, none⟩ 1) .i64 fun x43 => ldI w41 (.add ⟨B3, 0, none⟩ 2) .i64 fun x44 => ldI w41 (.add ⟨B3, 0, none⟩ 3) .i64 fun x45 => ldC w41 (.add ⟨B3, 0, none⟩ 4) .f64 fun r46 i46 => Q (.returned (.tuple #[.agg #[.int .i64 x42, .int .i64 x43, .int .i64 x44, .int .i64 x45, .complex .f64 r46 i46], .int .i64 61])) w41) (Calls Try.prog 48 #[.slice A36_0 n36_0 c36_0] w35 fun e47 w48 => ∃ x49_0 x49_1 x49_2 x49_3, e47 = .returned (.agg #[.int .i64 x49_0, .int .i64 x49_1, .int .i64 x49_2, .int .i64 x49_3]) ∧ (Calls Try.prog 49 #[.slice A36_0 n36_0 c36_0] w48 fun e50 w51 => ∃ x52, e50 = .returned (.int .i64 x52) ∧ (Runs Try.prog (Go.convert 2 72 (.int .i64 x52)) w51 fun v54 w53 => ∃ f55, v54 = (.float .f64 f55) ∧ (Runs Try.prog (Go.convert 3 72 (.int .i64 (n36_0 : Int))) w53 fun v57 w56 => ∃ f58, v57 = (.float .f64 f58) ∧ (stW w56 ⟨B3, 0, none⟩ (.int .i64 x49_0) fun w59 => stW w59 (.add ⟨B3, 0, none⟩ 1) (.int .i64 x49_1) fun w60 => stW w60 (.add ⟨B3, 0, none⟩ 2) (.int .i64 x49_2) fun w61 => stW w61 (.add ⟨B3, 0, none⟩ 3) (.int .i64 x49_3) fun w62 => stW w62 (.add ⟨B3, 0, none⟩ 4) (.complex .f64 f55 f58) fun w63 => ldI w63 ⟨B3, 0, none⟩ .i64 fun x64 => ldI w63 (.add ⟨B3, 0, none⟩ 1) .i64 fun x65 => ldI w63 (.add ⟨B3, 0, none⟩ 2) .i64 fun x66 => ldI w63 (.add ⟨B3, 0, none⟩ 3) .i64 fun x67 => ldC w63 (.add ⟨B3, 0, none⟩ 4) .f64 fun r68 i68 => Q (.returned (.tuple #[.agg #[.int .i64 x64, .int .i64 x65, .int .i64 x66, .int .i64 x67, .complex .f64 r68 i68], .int .i64 0])) w63))))))))))
def D : Nat → Option DH := dtab []
def tb : List (List Nat × Spec) := []
variable (Aa0_0 : Option Addr) (na0_0 ca0_0 : Nat) (Aa0_1 : Option Addr) (na0_1 ca0_1 : Nat) (Aa0_2 : Option Addr) (na0_2 ca0_2 : Nat) (Aa0_3 : Option Addr) (na0_3 ca0_3 : Nat) (xa1 xa2 : Int) (w : World) (Q : Ending → World → Prop)
theorem wp_eq : wp Aa0_0 na0_0 ca0_0 Aa0_1 na0_1 ca0_1 Aa0_2 na0_2 ca0_2 Aa0_3 na0_3 ca0_3 xa1 xa2 w Q = codeW Try.prog hT 47 D (tab tb) [] body (topQ Try.prog hT 47 [.cell 6 69, .tmp 7] Q) (argsF [.agg #[.slice Aa0_0 na0_0 ca0_0, .slice Aa0_1 na0_1 ca0_1, .slice Aa0_2 na0_2 ca0_2, .slice Aa0_3 na0_3 ca0_3], .int .i64 xa1, .int .i64 xa2]) w := by kernel_rfl
theorem ok (h : wp Aa0_0 na0_0 ca0_0 Aa0_1 na0_1 ca0_1 Aa0_2 na0_2 ca0_2 Aa0_3 na0_3 ca0_3 xa1 xa2 w Q) : Calls Try.prog 26 #[.agg #[.slice Aa0_0 na0_0 ca0_0, .slice Aa0_1 na0_1 ca0_1, .slice Aa0_2 na0_2 ca0_2, .slice Aa0_3 na0_3 ca0_3], .int .i64 xa1, .int .i64 xa2] w Q := by
 rw [wp_eq] at h
 refine calls_of_codeW (c := body) (rs := [.cell 6 69, .tmp 7]) Try.func26 ?_ ?_ ?_ ?_ ?_ (tab_snd (by
  intro x hx
  simp only [tb, List.not_mem_nil] at hx
  )) ?_ h <;> kernel_rfl
end f_ref17_Along
namespace f_ref01_Has
noncomputable def body : Code := (Try.f27.body).getD .skip
def l0 : Nat → Option Addr → Nat → Nat → Int → Int → World → (World → Prop) → (Bool → World → Prop) → Prop | 0, _, _, _, _, _, _, _, _ => False | k + 1, At0, nt0, ct0, xt1, xt5, w, K0, Kr => sel (decide (xt5 < (nt0 : Int))) (optB At0 fun a1 => req (decide (0 ≤ xt5 ∧ xt5 < (nt0 : Int))) <| ldI w (a1.add (xt5.toNat * 1)) .i64 fun x2 => sel (x2 == xt1) (Kr true w) (l0 k At0 nt0 ct0 xt1 (IntKind.i64.wrap (xt5 + 1)) w K0 Kr)) (K0 w)
def wp (Aa0 : Option Addr) (na0 ca0 : Nat) (xa1 : Int) (w : World) (Q : Ending → World → Prop) : Prop := ∃ k6, l0 k6 Aa0 na0 ca0 xa1 0 w (fun w3 => ∀ _ : Fr, Q (.returned (.bool false)) w3) (fun b4 w5 => ∀ _ : Fr, Q (.returned (.bool b4)) w5)
def D : Nat → Option DH := dtab []
def l0LO : LO := ⟨[], [4], [(0, [])], []⟩
def l0Tk (k : Nat) : Spec := fun Q σ w => gSlice (σ 0) fun At0 nt0 ct0 => gInt .i64 (σ 1) fun xt1 => gInt .i64 (σ 5) fun xt5 => l0 k At0 nt0 ct0 xt1 xt5 w (fun w => ∀ d : Fr, Q (.exit 0) (ov d []) w) (fun bq4 w => ∀ d : Fr, Q .ret (ov d [(4, .bool bq4)]) w)
def l0T : Spec := fun Q σ w => ∃ k, l0Tk k Q σ w
def l0tb : List (List Nat × Spec) := []
noncomputable def l0b : Code := (subC [0, 0, 1, 0, 1] body).getD .skip
theorem l0_eq (k : Nat) (At0 : Option Addr) (nt0 ct0 : Nat) (xt1 xt5 : Int) (Q : PQ) (σ : Fr) (w : World) : l0 (k + 1) At0 nt0 ct0 xt1 xt5 w (fun w => ∀ d : Fr, Q (.exit 0) (ov d []) w) (fun bq4 w => ∀ d : Fr, Q .ret (ov d [(4, .bool bq4)]) w) = codeW Try.prog hT 18 D (tab l0tb) [0, 0, 1, 0, 1] l0b (thenQ (l0Tk k Q) (widen l0LO Q)) (ov σ [(0, .slice At0 nt0 ct0), (1, .int .i64 xt1), (5, .int .i64 xt5)]) w := by kernel_rfl
theorem l0_snd : ∀ c, subC [0, 1, 0, 1] body = some c → Snd Try.prog 18 c l0T := by
 refine loop_of (hT := hT) (D := D) (l := l0tb) (b := l0b) (lo := l0LO) (by kernel_rfl) (by
  intro x hx
  simp only [l0tb, List.not_mem_nil] at hx
  ) (by kernel_rfl) (by kernel_rfl) ?_ ?_
 ·intro Q σ w h
  unfold l0Tk at h
  obtain ⟨_, _, _, _, h⟩ := gSlice_elim h
  obtain ⟨_, _, h⟩ := gInt_elim h
  obtain ⟨_, _, h⟩ := gInt_elim h
  exact h
 ·intro k Q σ w h
  unfold l0Tk at h
  obtain ⟨At0, nt0, ct0, h0, h⟩ := gSlice_elim h
  obtain ⟨xt1, h1, h⟩ := gInt_elim h
  obtain ⟨xt5, h5, h⟩ := gInt_elim h
  rw [l0_eq (σ := σ)] at h
  have e : (ov σ [(0, .slice At0 nt0 ct0), (1, .int .i64 xt1), (5, .int .i64 xt5)]) = σ := ov_self (by simp [h0, h1, h5])
  rw [e] at h
  exact h
def tb : List (List Nat × Spec) := [([0, 1, 0, 1], l0T)]
variable (Aa0 : Option Addr) (na0 ca0 : Nat) (xa1 : Int) (w : World) (Q : Ending → World → Prop)
theorem wp_eq : wp Aa0 na0 ca0 xa1 w Q = codeW Try.prog hT 18 D (tab tb) [] body (topQ Try.prog hT 18 [.tmp 4] Q) (argsF [.slice Aa0 na0 ca0, .int .i64 xa1]) w := by kernel_rfl
theorem ok (h : wp Aa0 na0 ca0 xa1 w Q) : Calls Try.prog 27 #[.slice Aa0 na0 ca0, .int .i64 xa1] w Q := by
 rw [wp_eq] at h
 refine calls_of_codeW (c := body) (rs := [.tmp 4]) Try.func27 ?_ ?_ ?_ ?_ ?_ (tab_snd (by
  intro x hx
  simp only [tb, List.mem_cons, List.not_mem_nil, or_false] at hx
  subst hx
  exact l0_snd)) ?_ h <;> kernel_rfl
end f_ref01_Has
namespace f_ref16_Verts
noncomputable def body : Code := (Try.f28.body).getD .skip
def l0 : Nat → Int → Addr → Int → Int → World → (Int → World → Prop) → Prop | 0, _, _, _, _, _, _ => False | k + 1, xt1, at2, xt6, xt7, w, K0 => ldS w at2 fun A8 n8 c8 => sel (decide (xt7 < (n8 : Int))) (ldS w at2 fun A9 n9 c9 => optB A9 fun a10 => req (decide (0 ≤ xt7 ∧ xt7 < (n9 : Int))) <| ldI w (a10.add (xt7.toNat * 1)) .i64 fun x11 => sel (x11 == xt1) (l0 k xt1 at2 xt7 (IntKind.i64.wrap (xt7 + 1)) w K0) (l0 k xt1 at2 xt6 (IntKind.i64.wrap (xt7 + 1)) w K0)) (K0 xt6 w)
def l1 : Nat → Addr → Option Addr → Nat → Nat → Int → Option Addr → Nat → Nat → Int → World → ((Option Addr) → Nat → Nat → World → Prop) → Prop | 0, _, _, _, _, _, _, _, _, _, _, _ => False | k + 1, at2, At5, nt5, ct5, xt6, At8, nt8, ct8, xt9, w, K2 => ldS w at2 fun A16 n16 c16 => sel (decide (xt9 < (n16 : Int))) (drW w fun w17 => sel (decide (xt6 ≥ 0)) (optB At5 fun a19 => req (decide (0 ≤ xt9 ∧ xt9 < (nt5 : Int))) <| ldI w17 (a19.add (xt9.toNat * 1)) .i64 fun x20 => optB At5 fun a21 => req (decide (0 ≤ xt6 ∧ xt6 < (nt5 : Int))) <| ldI w17 (a21.add (xt6.toNat * 1)) .i64 fun x22 => sel (x20 == x22) (ldS w17 at2 fun A23 n23 c23 => optB A23 fun a24 => req (decide (0 ≤ xt9 ∧ xt9 < (n23 : Int))) <| ldI w17 (a24.add (xt9.toNat * 1)) .i64 fun x25 => alW w17 (.cells #[.int .i64 x25] 3) fun B26 w27 => Runs Try.prog (Builtin.append_ #[22, 22] 22 #[.slice At8 nt8 ct8, .slice (some ⟨B26, 0, none⟩) 1 1]) w27 fun v29 w28 => ∃ A30 n30 c30, v29 = (.slice A30 n30 c30) ∧ (l1 k at2 At5 nt5 ct5 xt6 A30 n30 c30 (IntKind.i64.wrap (xt9 + 1)) w28 K2)) (l1 k at2 At5 nt5 ct5 xt6 At8 nt8 ct8 (IntKind.i64.wrap (xt9 + 1)) w17 K2)) (l1 k at2 At5 nt5 ct5 xt6 At8 nt8 ct8 (IntKind.i64.wrap (xt9 + 1)) w17 K2)) (K2 At8 nt8 ct8 w)
def wp (Aa0_0 : Option Addr) (na0_0 ca0_0 : Nat) (Aa0_1 : Option Addr) (na0_1 ca0_1 : Nat) (Aa0_2 : Option Addr) (na0_2 ca0_2 : Nat) (Aa0_3 : Option Addr) (na0_3 ca0_3 : Nat) (xa1 : Int) (w : World) (Q : Ending → World → Prop) : Prop := alW w (.cells #[.slice Aa0_0 na0_0 ca0_0, .slice Aa0_1 na0_1 ca0_1, .slice Aa0_2 na0_2 ca0_2, .slice Aa0_3 na0_3 ca0_3] 31) fun B1 w2 => ldS w2 ⟨B1, 0, none⟩ fun A3 n3 c3 => ldS w2 (.add ⟨B1, 0, none⟩ 1) fun A4 n4 c4 => Calls Try.prog 50 #[.slice A3 n3 c3, .slice A4 n4 c4] w2 fun e5 w6 => ∃ A7 n7 c7, e5 = .returned (.slice A7 n7 c7) ∧ (∃ k34, l0 k34 xa1 ⟨B1, 0, none⟩ (-1 : Int) 0 w6 (fun x12 w13 => ∀ _ : Fr, alW w13 (.cells #[] 3) fun B14 w15 => ∃ k33, l1 k33 ⟨B1, 0, none⟩ A7 n7 c7 x12 (some ⟨B14, 0, none⟩) 0 0 0 w15 (fun A31 n31 c31 w32 => ∀ _ : Fr, Q (.returned (.slice A31 n31 c31)) w32)))
def D : Nat → Option DH := dtab [(12, .simple [.fst 0, .fst 1, .fst 2, .fst 3, .fst 4, .fst 5, .fst 6, .fst 7, .fst 8, .fst 9, .fst 10] [.fst 11, .fst 12])]
def l0LO : LO := ⟨[], [], [(0, [2, 5, 6])], []⟩
def l0Tk (k : Nat) : Spec := fun Q σ w => gInt .i64 (σ 1) fun xt1 => gAd (σ 2) fun at2 => gInt .i64 (σ 6) fun xt6 => gInt .i64 (σ 7) fun xt7 => l0 k xt1 at2 xt6 xt7 w (fun xq6 w => ∀ d : Fr, Q (.exit 0) (ov d [(2, .pointer (some at2)), (5, σ 5), (6, .int .i64 xq6)]) w)
def l0T : Spec := fun Q σ w => ∃ k, l0Tk k Q σ w
def l0tb : List (List Nat × Spec) := []
noncomputable def l0b : Code := (subC [0, 0, 1, 0, 1, 1, 1] body).getD .skip
theorem l0_eq (k : Nat) (xt1 : Int) (at2 : Addr) (xt6 xt7 : Int) (Q : PQ) (σ : Fr) (w : World) : l0 (k + 1) xt1 at2 xt6 xt7 w (fun xq6 w => ∀ d : Fr, Q (.exit 0) (ov d [(2, .pointer (some at2)), (5, σ 5), (6, .int .i64 xq6)]) w) = codeW Try.prog hT 66 D (tab l0tb) [0, 0, 1, 0, 1, 1, 1] l0b (thenQ (l0Tk k Q) (widen l0LO Q)) (ov σ [(1, .int .i64 xt1), (2, .pointer (some at2)), (6, .int .i64 xt6), (7, .int .i64 xt7)]) w := by kernel_rfl
theorem l0_snd : ∀ c, subC [0, 1, 0, 1, 1, 1] body = some c → Snd Try.prog 66 c l0T := by
 refine loop_of (hT := hT) (D := D) (l := l0tb) (b := l0b) (lo := l0LO) (by kernel_rfl) (by
  intro x hx
  simp only [l0tb, List.not_mem_nil] at hx
  ) (by kernel_rfl) (by kernel_rfl) ?_ ?_
 ·intro Q σ w h
  unfold l0Tk at h
  obtain ⟨_, _, h⟩ := gInt_elim h
  obtain ⟨_, _, h⟩ := gAd_elim h
  obtain ⟨_, _, h⟩ := gInt_elim h
  obtain ⟨_, _, h⟩ := gInt_elim h
  exact h
 ·intro k Q σ w h
  unfold l0Tk at h
  obtain ⟨xt1, h1, h⟩ := gInt_elim h
  obtain ⟨at2, h2, h⟩ := gAd_elim h
  obtain ⟨xt6, h6, h⟩ := gInt_elim h
  obtain ⟨xt7, h7, h⟩ := gInt_elim h
  rw [l0_eq (σ := σ)] at h
  have e : (ov σ [(1, .int .i64 xt1), (2, .pointer (some at2)), (6, .int .i64 xt6), (7, .int .i64 xt7)]) = σ := ov_self (by simp [h1, h2, h6, h7])
  rw [e] at h
  exact h
def l1LO : LO := ⟨[], [], [(2, [8])], []⟩
def l1Tk (k : Nat) : Spec := fun Q σ w => gAd (σ 2) fun at2 => gSlice (σ 5) fun At5 nt5 ct5 => gInt .i64 (σ 6) fun xt6 => gSlice (σ 8) fun At8 nt8 ct8 => gInt .i64 (σ 9) fun xt9 => l1 k at2 At5 nt5 ct5 xt6 At8 nt8 ct8 xt9 w (fun Aq8 nq8 cq8 w => ∀ d : Fr, Q (.exit 2) (ov d [(8, .slice Aq8 nq8 cq8)]) w)
def l1T : Spec := fun Q σ w => ∃ k, l1Tk k Q σ w
def l1tb : List (List Nat × Spec) := []
noncomputable def l1b : Code := (subC [0, 0, 1, 0, 1, 1, 1, 1, 1] body).getD .skip
theorem l1_eq (k : Nat) (at2 : Addr) (At5 : Option Addr) (nt5 ct5 : Nat) (xt6 : Int) (At8 : Option Addr) (nt8 ct8 : Nat) (xt9 : Int) (Q : PQ) (σ : Fr) (w : World) : l1 (k + 1) at2 At5 nt5 ct5 xt6 At8 nt8 ct8 xt9 w (fun Aq8 nq8 cq8 w => ∀ d : Fr, Q (.exit 2) (ov d [(8, .slice Aq8 nq8 cq8)]) w) = codeW Try.prog hT 66 D (tab l1tb) [0, 0, 1, 0, 1, 1, 1, 1, 1] l1b (thenQ (l1Tk k Q) (widen l1LO Q)) (ov σ [(2, .pointer (some at2)), (5, .slice At5 nt5 ct5), (6, .int .i64 xt6), (8, .slice At8 nt8 ct8), (9, .int .i64 xt9)]) w := by kernel_rfl
theorem l1_snd : ∀ c, subC [0, 1, 0, 1, 1, 1, 1, 1] body = some c → Snd Try.prog 66 c l1T := by
 refine loop_of (hT := hT) (D := D) (l := l1tb) (b := l1b) (lo := l1LO) (by kernel_rfl) (by
  intro x hx
  simp only [l1tb, List.not_mem_nil] at hx
  ) (by kernel_rfl) (by kernel_rfl) ?_ ?_
 ·intro Q σ w h
  unfold l1Tk at h
  obtain ⟨_, _, h⟩ := gAd_elim h
  obtain ⟨_, _, _, _, h⟩ := gSlice_elim h
  obtain ⟨_, _, h⟩ := gInt_elim h
  obtain ⟨_, _, _, _, h⟩ := gSlice_elim h
  obtain ⟨_, _, h⟩ := gInt_elim h
  exact h
 ·intro k Q σ w h
  unfold l1Tk at h
  obtain ⟨at2, h2, h⟩ := gAd_elim h
  obtain ⟨At5, nt5, ct5, h5, h⟩ := gSlice_elim h
  obtain ⟨xt6, h6, h⟩ := gInt_elim h
  obtain ⟨At8, nt8, ct8, h8, h⟩ := gSlice_elim h
  obtain ⟨xt9, h9, h⟩ := gInt_elim h
  rw [l1_eq (σ := σ)] at h
  have e : (ov σ [(2, .pointer (some at2)), (5, .slice At5 nt5 ct5), (6, .int .i64 xt6), (8, .slice At8 nt8 ct8), (9, .int .i64 xt9)]) = σ := ov_self (by simp [h2, h5, h6, h8, h9])
  rw [e] at h
  exact h
def tb : List (List Nat × Spec) := [([0, 1, 0, 1, 1, 1], l0T), ([0, 1, 0, 1, 1, 1, 1, 1], l1T)]
variable (Aa0_0 : Option Addr) (na0_0 ca0_0 : Nat) (Aa0_1 : Option Addr) (na0_1 ca0_1 : Nat) (Aa0_2 : Option Addr) (na0_2 ca0_2 : Nat) (Aa0_3 : Option Addr) (na0_3 ca0_3 : Nat) (xa1 : Int) (w : World) (Q : Ending → World → Prop)
theorem wp_eq : wp Aa0_0 na0_0 ca0_0 Aa0_1 na0_1 ca0_1 Aa0_2 na0_2 ca0_2 Aa0_3 na0_3 ca0_3 xa1 w Q = codeW Try.prog hT 66 D (tab tb) [] body (topQ Try.prog hT 66 [.tmp 4] Q) (argsF [.agg #[.slice Aa0_0 na0_0 ca0_0, .slice Aa0_1 na0_1 ca0_1, .slice Aa0_2 na0_2 ca0_2, .slice Aa0_3 na0_3 ca0_3], .int .i64 xa1]) w := by kernel_rfl
theorem ok (h : wp Aa0_0 na0_0 ca0_0 Aa0_1 na0_1 ca0_1 Aa0_2 na0_2 ca0_2 Aa0_3 na0_3 ca0_3 xa1 w Q) : Calls Try.prog 28 #[.agg #[.slice Aa0_0 na0_0 ca0_0, .slice Aa0_1 na0_1 ca0_1, .slice Aa0_2 na0_2 ca0_2, .slice Aa0_3 na0_3 ca0_3], .int .i64 xa1] w Q := by
 rw [wp_eq] at h
 refine calls_of_codeW (c := body) (rs := [.tmp 4]) Try.func28 ?_ ?_ ?_ ?_ ?_ (tab_snd (by
  intro x hx
  simp only [tb, List.mem_cons, List.not_mem_nil, or_false] at hx
  rcases hx with rfl | rfl
  ·exact l0_snd
  ·exact l1_snd)) ?_ h <;> kernel_rfl
end f_ref16_Verts
namespace f_ref05_BadId
noncomputable def body : Code := (Try.f40.body).getD .skip
def wp (xa0 : Int) (w : World) (Q : Ending → World → Prop) : Prop := sel (decide (xa0 < 1)) (Q (.returned (.bool true)) w) (Q (.returned (.bool (decide (xa0 > 2147483647)))) w)
def D : Nat → Option DH := dtab []
def tb : List (List Nat × Spec) := []
variable (xa0 : Int) (w : World) (Q : Ending → World → Prop)
theorem wp_eq : wp xa0 w Q = codeW Try.prog hT 9 D (tab tb) [] body (topQ Try.prog hT 9 [.tmp 2] Q) (argsF [.int .i64 xa0]) w := by kernel_rfl
theorem ok (h : wp xa0 w Q) : Calls Try.prog 40 #[.int .i64 xa0] w Q := by
 rw [wp_eq] at h
 refine calls_of_codeW (c := body) (rs := [.tmp 2]) Try.func40 ?_ ?_ ?_ ?_ ?_ (tab_snd (by
  intro x hx
  simp only [tb, List.not_mem_nil] at hx
  )) ?_ h <;> kernel_rfl
end f_ref05_BadId
namespace f_ref05_With
noncomputable def body : Code := (Try.f41.body).getD .skip
def j1 (At0 : Option Addr) (nt0 ct0 : Nat) (At5 : Option Addr) (nt5 ct5 : Nat) (xt7 : Int) (w : World) (Kn : (Option Addr) → Nat → Nat → World → Prop) : Prop := optB At0 fun a10 => req (decide (0 ≤ xt7 ∧ xt7 < (nt0 : Int))) <| ldI w (a10.add (xt7.toNat * 1)) .i64 fun x11 => alW w (.cells #[.int .i64 x11] 3) fun B12 w13 => Runs Try.prog (Builtin.append_ #[22, 22] 22 #[.slice At5 nt5 ct5, .slice (some ⟨B12, 0, none⟩) 1 1]) w13 fun v15 w14 => ∃ A16 n16 c16, v15 = (.slice A16 n16 c16) ∧ (Kn A16 n16 c16 w14)
def l0 : Nat → Option Addr → Nat → Nat → Int → Option Addr → Nat → Nat → Bool → Int → World → ((Option Addr) → Nat → Nat → Bool → World → Prop) → Prop | 0, _, _, _, _, _, _, _, _, _, _, _ => False | k + 1, At0, nt0, ct0, xt1, At5, nt5, ct5, bt6, xt7, w, K0 => sel (decide (xt7 < (nt0 : Int))) (sel (!bt6) (optB At0 fun a3 => req (decide (0 ≤ xt7 ∧ xt7 < (nt0 : Int))) <| ldI w (a3.add (xt7.toNat * 1)) .i64 fun x4 => sel (decide (xt1 < x4)) (alW w (.cells #[.int .i64 xt1] 3) fun B5 w6 => Runs Try.prog (Builtin.append_ #[22, 22] 22 #[.slice At5 nt5 ct5, .slice (some ⟨B5, 0, none⟩) 1 1]) w6 fun v8 w7 => ∃ A9 n9 c9, v8 = (.slice A9 n9 c9) ∧ (j1 At0 nt0 ct0 A9 n9 c9 xt7 w7 (fun A17 n17 c17 w18 => ∀ _ : Fr, l0 k At0 nt0 ct0 xt1 A17 n17 c17 true (IntKind.i64.wrap (xt7 + 1)) w18 K0))) (j1 At0 nt0 ct0 At5 nt5 ct5 xt7 w (fun A19 n19 c19 w20 => ∀ _ : Fr, l0 k At0 nt0 ct0 xt1 A19 n19 c19 bt6 (IntKind.i64.wrap (xt7 + 1)) w20 K0))) (j1 At0 nt0 ct0 At5 nt5 ct5 xt7 w (fun A21 n21 c21 w22 => ∀ _ : Fr, l0 k At0 nt0 ct0 xt1 A21 n21 c21 bt6 (IntKind.i64.wrap (xt7 + 1)) w22 K0))) (K0 At5 nt5 ct5 bt6 w)
def wp (Aa0 : Option Addr) (na0 ca0 : Nat) (xa1 : Int) (w : World) (Q : Ending → World → Prop) : Prop := alW w (.cells #[] 3) fun B1 w2 => ∃ k31, l0 k31 Aa0 na0 ca0 xa1 (some ⟨B1, 0, none⟩) 0 0 false 0 w2 (fun A23 n23 c23 b24 w25 => ∀ _ : Fr, sel (!b24) (alW w25 (.cells #[.int .i64 xa1] 3) fun B26 w27 => Runs Try.prog (Builtin.append_ #[22, 22] 22 #[.slice A23 n23 c23, .slice (some ⟨B26, 0, none⟩) 1 1]) w27 fun v29 w28 => ∃ A30 n30 c30, v29 = (.slice A30 n30 c30) ∧ (Q (.returned (.slice A30 n30 c30)) w28)) (Q (.returned (.slice A23 n23 c23)) w25))
def D : Nat → Option DH := dtab []
def j1LO : LO := ⟨[0, 1, 5, 6, 7], [], [], []⟩
def j1T : Spec := fun Q σ w => gSlice (σ 0) fun At0 nt0 ct0 => gSlice (σ 5) fun At5 nt5 ct5 => gInt .i64 (σ 7) fun xt7 => j1 At0 nt0 ct0 At5 nt5 ct5 xt7 w (fun Aq5 nq5 cq5 w => ∀ d : Fr, Q .normal (ov d [(0, .slice At0 nt0 ct0), (1, σ 1), (5, .slice Aq5 nq5 cq5), (6, σ 6), (7, .int .i64 xt7)]) w)
def j1tb : List (List Nat × Spec) := []
noncomputable def j1b : Code := (subC [1, 0, 0, 1, 0, 0, 1, 0, 1, 1, 1] body).getD .skip
theorem j1_eq (At0 : Option Addr) (nt0 ct0 : Nat) (At5 : Option Addr) (nt5 ct5 : Nat) (xt7 : Int) (Q : PQ) (σ : Fr) (w : World) : j1 At0 nt0 ct0 At5 nt5 ct5 xt7 w (fun Aq5 nq5 cq5 w => ∀ d : Fr, Q .normal (ov d [(0, .slice At0 nt0 ct0), (1, σ 1), (5, .slice Aq5 nq5 cq5), (6, σ 6), (7, .int .i64 xt7)]) w) = codeW Try.prog hT 43 D (tab j1tb) [1, 0, 0, 1, 0, 0, 1, 0, 1, 1, 1] j1b (widen j1LO Q) (ov σ [(0, .slice At0 nt0 ct0), (5, .slice At5 nt5 ct5), (7, .int .i64 xt7)]) w := by kernel_rfl
theorem j1_snd : ∀ c, subC [1, 0, 0, 1, 0, 0, 1, 0, 1, 1, 1] body = some c → Snd Try.prog 43 c j1T := by
 refine cut_of (hT := hT) (D := D) (l := j1tb) (b := j1b) (lo := j1LO) (by kernel_rfl) (by
  intro x hx
  simp only [j1tb, List.not_mem_nil] at hx
  ) (by kernel_rfl) (by kernel_rfl) ?_
 intro Q σ w h
 unfold j1T at h
 obtain ⟨At0, nt0, ct0, h0, h⟩ := gSlice_elim h
 obtain ⟨At5, nt5, ct5, h5, h⟩ := gSlice_elim h
 obtain ⟨xt7, h7, h⟩ := gInt_elim h
 rw [j1_eq (σ := σ)] at h
 have e : (ov σ [(0, .slice At0 nt0 ct0), (5, .slice At5 nt5 ct5), (7, .int .i64 xt7)]) = σ := ov_self (by simp [h0, h5, h7])
 rw [e] at h
 exact h
def l0LO : LO := ⟨[], [], [(0, [1, 5, 6])], []⟩
def l0Tk (k : Nat) : Spec := fun Q σ w => gSlice (σ 0) fun At0 nt0 ct0 => gInt .i64 (σ 1) fun xt1 => gSlice (σ 5) fun At5 nt5 ct5 => gBool (σ 6) fun bt6 => gInt .i64 (σ 7) fun xt7 => l0 k At0 nt0 ct0 xt1 At5 nt5 ct5 bt6 xt7 w (fun Aq5 nq5 cq5 bq6 w => ∀ d : Fr, Q (.exit 0) (ov d [(1, .int .i64 xt1), (5, .slice Aq5 nq5 cq5), (6, .bool bq6)]) w)
def l0T : Spec := fun Q σ w => ∃ k, l0Tk k Q σ w
def l0tb : List (List Nat × Spec) := [([1, 0, 0, 1, 0, 0, 1, 0, 1, 1, 1], j1T)]
noncomputable def l0b : Code := (subC [0, 0, 1, 0, 1, 1, 1] body).getD .skip
theorem l0_eq (k : Nat) (At0 : Option Addr) (nt0 ct0 : Nat) (xt1 : Int) (At5 : Option Addr) (nt5 ct5 : Nat) (bt6 : Bool) (xt7 : Int) (Q : PQ) (σ : Fr) (w : World) : l0 (k + 1) At0 nt0 ct0 xt1 At5 nt5 ct5 bt6 xt7 w (fun Aq5 nq5 cq5 bq6 w => ∀ d : Fr, Q (.exit 0) (ov d [(1, .int .i64 xt1), (5, .slice Aq5 nq5 cq5), (6, .bool bq6)]) w) = codeW Try.prog hT 43 D (tab l0tb) [0, 0, 1, 0, 1, 1, 1] l0b (thenQ (l0Tk k Q) (widen l0LO Q)) (ov σ [(0, .slice At0 nt0 ct0), (1, .int .i64 xt1), (5, .slice At5 nt5 ct5), (6, .bool bt6), (7, .int .i64 xt7)]) w := by cases bt6 <;> kernel_rfl
theorem l0_snd : ∀ c, subC [0, 1, 0, 1, 1, 1] body = some c → Snd Try.prog 43 c l0T := by
 refine loop_of (hT := hT) (D := D) (l := l0tb) (b := l0b) (lo := l0LO) (by kernel_rfl) (by
  intro x hx
  simp only [l0tb, List.mem_cons, List.not_mem_nil, or_false] at hx
  subst hx
  exact j1_snd) (by kernel_rfl) (by kernel_rfl) ?_ ?_
 ·intro Q σ w h
  unfold l0Tk at h
  obtain ⟨_, _, _, _, h⟩ := gSlice_elim h
  obtain ⟨_, _, h⟩ := gInt_elim h
  obtain ⟨_, _, _, _, h⟩ := gSlice_elim h
  obtain ⟨_, _, h⟩ := gBool_elim h
  obtain ⟨_, _, h⟩ := gInt_elim h
  exact h
 ·intro k Q σ w h
  unfold l0Tk at h
  obtain ⟨At0, nt0, ct0, h0, h⟩ := gSlice_elim h
  obtain ⟨xt1, h1, h⟩ := gInt_elim h
  obtain ⟨At5, nt5, ct5, h5, h⟩ := gSlice_elim h
  obtain ⟨bt6, h6, h⟩ := gBool_elim h
  obtain ⟨xt7, h7, h⟩ := gInt_elim h
  rw [l0_eq (σ := σ)] at h
  have e : (ov σ [(0, .slice At0 nt0 ct0), (1, .int .i64 xt1), (5, .slice At5 nt5 ct5), (6, .bool bt6), (7, .int .i64 xt7)]) = σ := ov_self (by simp [h0, h1, h5, h6, h7])
  rw [e] at h
  exact h
def tb : List (List Nat × Spec) := [([1, 0, 0, 1, 0, 0, 1, 0, 1, 1, 1], j1T), ([0, 1, 0, 1, 1, 1], l0T)]
variable (Aa0 : Option Addr) (na0 ca0 : Nat) (xa1 : Int) (w : World) (Q : Ending → World → Prop)
theorem wp_eq : wp Aa0 na0 ca0 xa1 w Q = codeW Try.prog hT 43 D (tab tb) [] body (topQ Try.prog hT 43 [.tmp 4] Q) (argsF [.slice Aa0 na0 ca0, .int .i64 xa1]) w := by kernel_rfl
theorem ok (h : wp Aa0 na0 ca0 xa1 w Q) : Calls Try.prog 41 #[.slice Aa0 na0 ca0, .int .i64 xa1] w Q := by
 rw [wp_eq] at h
 refine calls_of_codeW (c := body) (rs := [.tmp 4]) Try.func41 ?_ ?_ ?_ ?_ ?_ (tab_snd (by
  intro x hx
  simp only [tb, List.mem_cons, List.not_mem_nil, or_false] at hx
  rcases hx with rfl | rfl
  ·exact j1_snd
  ·exact l0_snd)) ?_ h <;> kernel_rfl
end f_ref05_With
namespace f_ref05_Without
noncomputable def body : Code := (Try.f42.body).getD .skip
def l0 : Nat → Option Addr → Nat → Nat → Int → Option Addr → Nat → Nat → Int → World → ((Option Addr) → Nat → Nat → World → Prop) → Prop | 0, _, _, _, _, _, _, _, _, _, _ => False | k + 1, At0, nt0, ct0, xt1, At5, nt5, ct5, xt6, w, K0 => sel (decide (xt6 < (nt0 : Int))) (optB At0 fun a3 => req (decide (0 ≤ xt6 ∧ xt6 < (nt0 : Int))) <| ldI w (a3.add (xt6.toNat * 1)) .i64 fun x4 => sel (x4 != xt1) (optB At0 fun a5 => req (decide (0 ≤ xt6 ∧ xt6 < (nt0 : Int))) <| ldI w (a5.add (xt6.toNat * 1)) .i64 fun x6 => alW w (.cells #[.int .i64 x6] 3) fun B7 w8 => Runs Try.prog (Builtin.append_ #[22, 22] 22 #[.slice At5 nt5 ct5, .slice (some ⟨B7, 0, none⟩) 1 1]) w8 fun v10 w9 => ∃ A11 n11 c11, v10 = (.slice A11 n11 c11) ∧ (l0 k At0 nt0 ct0 xt1 A11 n11 c11 (IntKind.i64.wrap (xt6 + 1)) w9 K0)) (l0 k At0 nt0 ct0 xt1 At5 nt5 ct5 (IntKind.i64.wrap (xt6 + 1)) w K0)) (K0 At5 nt5 ct5 w)
def wp (Aa0 : Option Addr) (na0 ca0 : Nat) (xa1 : Int) (w : World) (Q : Ending → World → Prop) : Prop := alW w (.cells #[] 3) fun B1 w2 => ∃ k14, l0 k14 Aa0 na0 ca0 xa1 (some ⟨B1, 0, none⟩) 0 0 0 w2 (fun A12 n12 c12 w13 => ∀ _ : Fr, Q (.returned (.slice A12 n12 c12)) w13)
def D : Nat → Option DH := dtab []
def l0LO : LO := ⟨[], [], [(0, [5])], []⟩
def l0Tk (k : Nat) : Spec := fun Q σ w => gSlice (σ 0) fun At0 nt0 ct0 => gInt .i64 (σ 1) fun xt1 => gSlice (σ 5) fun At5 nt5 ct5 => gInt .i64 (σ 6) fun xt6 => l0 k At0 nt0 ct0 xt1 At5 nt5 ct5 xt6 w (fun Aq5 nq5 cq5 w => ∀ d : Fr, Q (.exit 0) (ov d [(5, .slice Aq5 nq5 cq5)]) w)
def l0T : Spec := fun Q σ w => ∃ k, l0Tk k Q σ w
def l0tb : List (List Nat × Spec) := []
noncomputable def l0b : Code := (subC [0, 0, 1, 0, 1, 1] body).getD .skip
theorem l0_eq (k : Nat) (At0 : Option Addr) (nt0 ct0 : Nat) (xt1 : Int) (At5 : Option Addr) (nt5 ct5 : Nat) (xt6 : Int) (Q : PQ) (σ : Fr) (w : World) : l0 (k + 1) At0 nt0 ct0 xt1 At5 nt5 ct5 xt6 w (fun Aq5 nq5 cq5 w => ∀ d : Fr, Q (.exit 0) (ov d [(5, .slice Aq5 nq5 cq5)]) w) = codeW Try.prog hT 28 D (tab l0tb) [0, 0, 1, 0, 1, 1] l0b (thenQ (l0Tk k Q) (widen l0LO Q)) (ov σ [(0, .slice At0 nt0 ct0), (1, .int .i64 xt1), (5, .slice At5 nt5 ct5), (6, .int .i64 xt6)]) w := by kernel_rfl
theorem l0_snd : ∀ c, subC [0, 1, 0, 1, 1] body = some c → Snd Try.prog 28 c l0T := by
 refine loop_of (hT := hT) (D := D) (l := l0tb) (b := l0b) (lo := l0LO) (by kernel_rfl) (by
  intro x hx
  simp only [l0tb, List.not_mem_nil] at hx
  ) (by kernel_rfl) (by kernel_rfl) ?_ ?_
 ·intro Q σ w h
  unfold l0Tk at h
  obtain ⟨_, _, _, _, h⟩ := gSlice_elim h
  obtain ⟨_, _, h⟩ := gInt_elim h
  obtain ⟨_, _, _, _, h⟩ := gSlice_elim h
  obtain ⟨_, _, h⟩ := gInt_elim h
  exact h
 ·intro k Q σ w h
  unfold l0Tk at h
  obtain ⟨At0, nt0, ct0, h0, h⟩ := gSlice_elim h
  obtain ⟨xt1, h1, h⟩ := gInt_elim h
  obtain ⟨At5, nt5, ct5, h5, h⟩ := gSlice_elim h
  obtain ⟨xt6, h6, h⟩ := gInt_elim h
  rw [l0_eq (σ := σ)] at h
  have e : (ov σ [(0, .slice At0 nt0 ct0), (1, .int .i64 xt1), (5, .slice At5 nt5 ct5), (6, .int .i64 xt6)]) = σ := ov_self (by simp [h0, h1, h5, h6])
  rw [e] at h
  exact h
def tb : List (List Nat × Spec) := [([0, 1, 0, 1, 1], l0T)]
variable (Aa0 : Option Addr) (na0 ca0 : Nat) (xa1 : Int) (w : World) (Q : Ending → World → Prop)
theorem wp_eq : wp Aa0 na0 ca0 xa1 w Q = codeW Try.prog hT 28 D (tab tb) [] body (topQ Try.prog hT 28 [.tmp 4] Q) (argsF [.slice Aa0 na0 ca0, .int .i64 xa1]) w := by kernel_rfl
theorem ok (h : wp Aa0 na0 ca0 xa1 w Q) : Calls Try.prog 42 #[.slice Aa0 na0 ca0, .int .i64 xa1] w Q := by
 rw [wp_eq] at h
 refine calls_of_codeW (c := body) (rs := [.tmp 4]) Try.func42 ?_ ?_ ?_ ?_ ?_ (tab_snd (by
  intro x hx
  simp only [tb, List.mem_cons, List.not_mem_nil, or_false] at hx
  subst hx
  exact l0_snd)) ?_ h <;> kernel_rfl
end f_ref05_Without
namespace f_ref16_Link
noncomputable def body : Code := (Try.f43.body).getD .skip
def j1 (at2 at8 : Addr) (xt10 : Int) (w : World) (Kn : World → Prop) : Prop := drW w fun w159 => ∃ S160 : World → Prop, S160 w159 ∧ (hdS S160 (at8.add 1) fun A161 n161 c161 => hdS S160 (at2.add 1) fun A162 n162 c162 => optB A162 fun a163 => req (decide (0 ≤ xt10 ∧ xt10 < (n162 : Int))) <| hdI S160 (a163.add (xt10.toNat * 4)) .i64 fun x164 => hdI S160 ((a163.add (xt10.toNat * 4)).add 1) .i64 fun x165 => hdI S160 ((a163.add (xt10.toNat * 4)).add 2) .i64 fun x166 => hdI S160 ((a163.add (xt10.toNat * 4)).add 3) .i64 fun x167 => alW w159 (.cells #[.int .i64 x164, .int .i64 x165, .int .i64 x166, .int .i64 x167] 33) fun B168 w169 => S160 w169 ∧ (Runs Try.prog (Builtin.append_ #[27, 27] 27 #[.slice A161 n161 c161, .slice (some ⟨B168, 0, none⟩) 1 1]) w169 fun v171 w170 => ∃ A172 n172 c172, v171 = (.slice A172 n172 c172) ∧ (stW w170 (at8.add 1) (.slice A172 n172 c172) fun w173 => Kn w173)))
def l0 : Nat → Addr → Addr → Addr → Bool → Int → World → (Bool → World → Prop) → Prop | 0, _, _, _, _, _, _, _ => False | k + 1, at2, at3, at8, bt9, xt10, w, K0 => ldS w (at2.add 1) fun A141 n141 c141 => sel (decide (xt10 < (n141 : Int))) (drW w fun w142 => sel (!bt9) (ldI w142 at3 .i64 fun x144 => ldS w142 (at2.add 1) fun A145 n145 c145 => optB A145 fun a146 => req (decide (0 ≤ xt10 ∧ xt10 < (n145 : Int))) <| ldI w142 (a146.add (xt10.toNat * 4)) .i64 fun x147 => sel (decide (x144 < x147)) (ldS w142 (at8.add 1) fun A148 n148 c148 => ldI w142 at3 .i64 fun x149 => ldI w142 (at3.add 1) .i64 fun x150 => ldI w142 (at3.add 2) .i64 fun x151 => ldI w142 (at3.add 3) .i64 fun x152 => alW w142 (.cells #[.int .i64 x149, .int .i64 x150, .int .i64 x151, .int .i64 x152] 33) fun B153 w154 => Runs Try.prog (Builtin.append_ #[27, 27] 27 #[.slice A148 n148 c148, .slice (some ⟨B153, 0, none⟩) 1 1]) w154 fun v156 w155 => ∃ A157 n157 c157, v156 = (.slice A157 n157 c157) ∧ (stW w155 (at8.add 1) (.slice A157 n157 c157) fun w158 => j1 at2 at8 xt10 w158 (fun w174 => ∀ _ : Fr, l0 k at2 at3 at8 true (IntKind.i64.wrap (xt10 + 1)) w174 K0))) (j1 at2 at8 xt10 w142 (fun w175 => ∀ _ : Fr, l0 k at2 at3 at8 bt9 (IntKind.i64.wrap (xt10 + 1)) w175 K0))) (j1 at2 at8 xt10 w142 (fun w176 => ∀ _ : Fr, l0 k at2 at3 at8 bt9 (IntKind.i64.wrap (xt10 + 1)) w176 K0))) (K0 bt9 w)
def wp (Aa0_0 : Option Addr) (na0_0 ca0_0 : Nat) (Aa0_1 : Option Addr) (na0_1 ca0_1 : Nat) (Aa0_2 : Option Addr) (na0_2 ca0_2 : Nat) (Aa0_3 : Option Addr) (na0_3 ca0_3 : Nat) (xa1_0 xa1_1 xa1_2 xa1_3 : Int) (w : World) (Q : Ending → World → Prop) : Prop := alW w (.cells #[.slice Aa0_0 na0_0 ca0_0, .slice Aa0_1 na0_1 ca0_1, .slice Aa0_2 na0_2 ca0_2, .slice Aa0_3 na0_3 ca0_3] 31) fun B1 w2 => alW w2 (.cells #[.int .i64 xa1_0, .int .i64 xa1_1, .int .i64 xa1_2, .int .i64 xa1_3] 33) fun B3 w4 => alW w4 (.cells #[.slice none 0 0, .slice none 0 0, .slice none 0 0, .slice none 0 0] 31) fun B5 w6 => ldI w6 ⟨B3, 0, none⟩ .i64 fun x7 => Calls Try.prog 40 #[.int .i64 x7] w6 fun e8 w9 => ∃ b10, e8 = .returned (.bool b10) ∧ (sel b10 (ldS w9 ⟨B1, 0, none⟩ fun A11 n11 c11 => ldS w9 (.add ⟨B1, 0, none⟩ 1) fun A12 n12 c12 => ldS w9 (.add ⟨B1, 0, none⟩ 2) fun A13 n13 c13 => ldS w9 (.add ⟨B1, 0, none⟩ 3) fun A14 n14 c14 => stW w9 ⟨B5, 0, none⟩ (.slice A11 n11 c11) fun w15 => stW w15 (.add ⟨B5, 0, none⟩ 1) (.slice A12 n12 c12) fun w16 => stW w16 (.add ⟨B5, 0, none⟩ 2) (.slice A13 n13 c13) fun w17 => stW w17 (.add ⟨B5, 0, none⟩ 3) (.slice A14 n14 c14) fun w18 => ldS w18 ⟨B5, 0, none⟩ fun A19 n19 c19 => ldS w18 (.add ⟨B5, 0, none⟩ 1) fun A20 n20 c20 => ldS w18 (.add ⟨B5, 0, none⟩ 2) fun A21 n21 c21 => ldS w18 (.add ⟨B5, 0, none⟩ 3) fun A22 n22 c22 => Q (.returned (.tuple #[.agg #[.slice A19 n19 c19, .slice A20 n20 c20, .slice A21 n21 c21, .slice A22 n22 c22], .int .i64 1])) w18) (ldI w9 (.add ⟨B3, 0, none⟩ 1) .i64 fun x23 => Calls Try.prog 40 #[.int .i64 x23] w9 fun e24 w25 => ∃ b26, e24 = .returned (.bool b26) ∧ (sel b26 (ldS w25 ⟨B1, 0, none⟩ fun A27 n27 c27 => ldS w25 (.add ⟨B1, 0, none⟩ 1) fun A28 n28 c28 => ldS w25 (.add ⟨B1, 0, none⟩ 2) fun A29 n29 c29 => ldS w25 (.add ⟨B1, 0, none⟩ 3) fun A30 n30 c30 => stW w25 ⟨B5, 0, none⟩ (.slice A27 n27 c27) fun w31 => stW w31 (.add ⟨B5, 0, none⟩ 1) (.slice A28 n28 c28) fun w32 => stW w32 (.add ⟨B5, 0, none⟩ 2) (.slice A29 n29 c29) fun w33 => stW w33 (.add ⟨B5, 0, none⟩ 3) (.slice A30 n30 c30) fun w34 => ldS w34 ⟨B5, 0, none⟩ fun A35 n35 c35 => ldS w34 (.add ⟨B5, 0, none⟩ 1) fun A36 n36 c36 => ldS w34 (.add ⟨B5, 0, none⟩ 2) fun A37 n37 c37 => ldS w34 (.add ⟨B5, 0, none⟩ 3) fun A38 n38 c38 => Q (.returned (.tuple #[.agg #[.slice A35 n35 c35, .slice A36 n36 c36, .slice A37 n37 c37, .slice A38 n38 c38], .int .i64 1])) w34) (ldI w25 (.add ⟨B3, 0, none⟩ 2) .i64 fun x39 => Calls Try.prog 40 #[.int .i64 x39] w25 fun e40 w41 => ∃ b42, e40 = .returned (.bool b42) ∧ (sel b42 (ldS w41 ⟨B1, 0, none⟩ fun A43 n43 c43 => ldS w41 (.add ⟨B1, 0, none⟩ 1) fun A44 n44 c44 => ldS w41 (.add ⟨B1, 0, none⟩ 2) fun A45 n45 c45 => ldS w41 (.add ⟨B1, 0, none⟩ 3) fun A46 n46 c46 => stW w41 ⟨B5, 0, none⟩ (.slice A43 n43 c43) fun w47 => stW w47 (.add ⟨B5, 0, none⟩ 1) (.slice A44 n44 c44) fun w48 => stW w48 (.add ⟨B5, 0, none⟩ 2) (.slice A45 n45 c45) fun w49 => stW w49 (.add ⟨B5, 0, none⟩ 3) (.slice A46 n46 c46) fun w50 => ldS w50 ⟨B5, 0, none⟩ fun A51 n51 c51 => ldS w50 (.add ⟨B5, 0, none⟩ 1) fun A52 n52 c52 => ldS w50 (.add ⟨B5, 0, none⟩ 2) fun A53 n53 c53 => ldS w50 (.add ⟨B5, 0, none⟩ 3) fun A54 n54 c54 => Q (.returned (.tuple #[.agg #[.slice A51 n51 c51, .slice A52 n52 c52, .slice A53 n53 c53, .slice A54 n54 c54], .int .i64 1])) w50) (ldS w41 ⟨B1, 0, none⟩ fun A55 n55 c55 => ldS w41 (.add ⟨B1, 0, none⟩ 1) fun A56 n56 c56 => ldS w41 (.add ⟨B1, 0, none⟩ 2) fun A57 n57 c57 => ldS w41 (.add ⟨B1, 0, none⟩ 3) fun A58 n58 c58 => ldI w41 ⟨B3, 0, none⟩ .i64 fun x59 => Calls Try.prog 44 #[.agg #[.slice A55 n55 c55, .slice A56 n56 c56, .slice A57 n57 c57, .slice A58 n58 c58], .int .i64 x59] w41 fun e60 w61 => ∃ x62_0_0 x62_0_1 x62_0_2 x62_0_3 b62_1, e60 = .returned (.tuple #[.agg #[.int .i64 x62_0_0, .int .i64 x62_0_1, .int .i64 x62_0_2, .int .i64 x62_0_3], .bool b62_1]) ∧ (alW w61 (.cells #[.int .i64 0, .int .i64 0, .int .i64 0, .int .i64 0] 33) fun B63 w64 => stW w64 ⟨B63, 0, none⟩ (.int .i64 x62_0_0) fun w65 => stW w65 (.add ⟨B63, 0, none⟩ 1) (.int .i64 x62_0_1) fun w66 => stW w66 (.add ⟨B63, 0, none⟩ 2) (.int .i64 x62_0_2) fun w67 => stW w67 (.add ⟨B63, 0, none⟩ 3) (.int .i64 x62_0_3) fun w68 => sel b62_1 (ldS w68 ⟨B1, 0, none⟩ fun A69 n69 c69 => ldS w68 (.add ⟨B1, 0, none⟩ 1) fun A70 n70 c70 => ldS w68 (.add ⟨B1, 0, none⟩ 2) fun A71 n71 c71 => ldS w68 (.add ⟨B1, 0, none⟩ 3) fun A72 n72 c72 => stW w68 ⟨B5, 0, none⟩ (.slice A69 n69 c69) fun w73 => stW w73 (.add ⟨B5, 0, none⟩ 1) (.slice A70 n70 c70) fun w74 => stW w74 (.add ⟨B5, 0, none⟩ 2) (.slice A71 n71 c71) fun w75 => stW w75 (.add ⟨B5, 0, none⟩ 3) (.slice A72 n72 c72) fun w76 => ldS w76 ⟨B5, 0, none⟩ fun A77 n77 c77 => ldS w76 (.add ⟨B5, 0, none⟩ 1) fun A78 n78 c78 => ldS w76 (.add ⟨B5, 0, none⟩ 2) fun A79 n79 c79 => ldS w76 (.add ⟨B5, 0, none⟩ 3) fun A80 n80 c80 => Q (.returned (.tuple #[.agg #[.slice A77 n77 c77, .slice A78 n78 c78, .slice A79 n79 c79, .slice A80 n80 c80], .int .i64 50])) w76) (ldS w68 ⟨B1, 0, none⟩ fun A81 n81 c81 => ldI w68 (.add ⟨B3, 0, none⟩ 1) .i64 fun x82 => Calls Try.prog 27 #[.slice A81 n81 c81, .int .i64 x82] w68 fun e83 w84 => ∃ b85, e83 = .returned (.bool b85) ∧ (sel (!b85) (ldS w84 ⟨B1, 0, none⟩ fun A86 n86 c86 => ldS w84 (.add ⟨B1, 0, none⟩ 1) fun A87 n87 c87 => ldS w84 (.add ⟨B1, 0, none⟩ 2) fun A88 n88 c88 => ldS w84 (.add ⟨B1, 0, none⟩ 3) fun A89 n89 c89 => stW w84 ⟨B5, 0, none⟩ (.slice A86 n86 c86) fun w90 => stW w90 (.add ⟨B5, 0, none⟩ 1) (.slice A87 n87 c87) fun w91 => stW w91 (.add ⟨B5, 0, none⟩ 2) (.slice A88 n88 c88) fun w92 => stW w92 (.add ⟨B5, 0, none⟩ 3) (.slice A89 n89 c89) fun w93 => ldS w93 ⟨B5, 0, none⟩ fun A94 n94 c94 => ldS w93 (.add ⟨B5, 0, none⟩ 1) fun A95 n95 c95 => ldS w93 (.add ⟨B5, 0, none⟩ 2) fun A96 n96 c96 => ldS w93 (.add ⟨B5, 0, none⟩ 3) fun A97 n97 c97 => Q (.returned (.tuple #[.agg #[.slice A94 n94 c94, .slice A95 n95 c95, .slice A96 n96 c96, .slice A97 n97 c97], .int .i64 51])) w93) (ldS w84 ⟨B1, 0, none⟩ fun A98 n98 c98 => ldI w84 (.add ⟨B3, 0, none⟩ 2) .i64 fun x99 => Calls Try.prog 27 #[.slice A98 n98 c98, .int .i64 x99] w84 fun e100 w101 => ∃ b102, e100 = .returned (.bool b102) ∧ (sel (!b102) (ldS w101 ⟨B1, 0, none⟩ fun A103 n103 c103 => ldS w101 (.add ⟨B1, 0, none⟩ 1) fun A104 n104 c104 => ldS w101 (.add ⟨B1, 0, none⟩ 2) fun A105 n105 c105 => ldS w101 (.add ⟨B1, 0, none⟩ 3) fun A106 n106 c106 => stW w101 ⟨B5, 0, none⟩ (.slice A103 n103 c103) fun w107 => stW w107 (.add ⟨B5, 0, none⟩ 1) (.slice A104 n104 c104) fun w108 => stW w108 (.add ⟨B5, 0, none⟩ 2) (.slice A105 n105 c105) fun w109 => stW w109 (.add ⟨B5, 0, none⟩ 3) (.slice A106 n106 c106) fun w110 => ldS w110 ⟨B5, 0, none⟩ fun A111 n111 c111 => ldS w110 (.add ⟨B5, 0, none⟩ 1) fun A112 n112 c112 => ldS w110 (.add ⟨B5, 0, none⟩ 2) fun A113 n113 c113 => ldS w110 (.add ⟨B5, 0, none⟩ 3) fun A114 n114 c114 => Q (.returned (.tuple #[.agg #[.slice A111 n111 c111, .slice A112 n112 c112, .slice A113 n113 c113, .slice A114 n114 c114], .int .i64 51])) w110) (ldS w101 ⟨B1, 0, none⟩ fun A115 n115 c115 => ldS w101 (.add ⟨B1, 0, none⟩ 1) fun A116 n116 c116 => ldS w101 (.add ⟨B1, 0, none⟩ 2) fun A117 n117 c117 => ldS w101 (.add ⟨B1, 0, none⟩ 3) fun A118 n118 c118 => ldI w101 (.add ⟨B3, 0, none⟩ 1) .i64 fun x119 => ldI w101 (.add ⟨B3, 0, none⟩ 2) .i64 fun x120 => Calls Try.prog 68 #[.agg #[.slice A115 n115 c115, .slice A116 n116 c116, .slice A117 n117 c117, .slice A118 n118 c118], .int .i64 x119, .int .i64 x120] w101 fun e121 w122 => ∃ b123, e121 = .returned (.bool b123) ∧ (sel b123 (ldS w122 ⟨B1, 0, none⟩ fun A124 n124 c124 => ldS w122 (.add ⟨B1, 0, none⟩ 1) fun A125 n125 c125 => ldS w122 (.add ⟨B1, 0, none⟩ 2) fun A126 n126 c126 => ldS w122 (.add ⟨B1, 0, none⟩ 3) fun A127 n127 c127 => stW w122 ⟨B5, 0, none⟩ (.slice A124 n124 c124) fun w128 => stW w128 (.add ⟨B5, 0, none⟩ 1) (.slice A125 n125 c125) fun w129 => stW w129 (.add ⟨B5, 0, none⟩ 2) (.slice A126 n126 c126) fun w130 => stW w130 (.add ⟨B5, 0, none⟩ 3) (.slice A127 n127 c127) fun w131 => ldS w131 ⟨B5, 0, none⟩ fun A132 n132 c132 => ldS w131 (.add ⟨B5, 0, none⟩ 1) fun A133 n133 c133 => ldS w131 (.add ⟨B5, 0, none⟩ 2) fun A134 n134 c134 => ldS w131 (.add ⟨B5, 0, none⟩ 3) fun A135 n135 c135 => Q (.returned (.tuple #[.agg #[.slice A132 n132 c132, .slice A133 n133 c133, .slice A134 n134 c134, .slice A135 n135 c135], .int .i64 151])) w131) (ldS w122 ⟨B1, 0, none⟩ fun A136 n136 c136 => alW w122 (.cells #[.slice none 0 0, .slice none 0 0] 29) fun B137 w138 => stW w138 ⟨B137, 0, none⟩ (.slice A136 n136 c136) fun w139 => stW w139 (.add ⟨B137, 0, none⟩ 1) (.slice none 0 0) fun w140 => ∃ k222, l0 k222 ⟨B1, 0, none⟩ ⟨B3, 0, none⟩ ⟨B137, 0, none⟩ false 0 w140 (fun b177 w178 => ∀ _ : Fr, sel (!b177) (ldS w178 (.add ⟨B137, 0, none⟩ 1) fun A179 n179 c179 => ldI w178 ⟨B3, 0, none⟩ .i64 fun x180 => ldI w178 (.add ⟨B3, 0, none⟩ 1) .i64 fun x181 => ldI w178 (.add ⟨B3, 0, none⟩ 2) .i64 fun x182 => ldI w178 (.add ⟨B3, 0, none⟩ 3) .i64 fun x183 => alW w178 (.cells #[.int .i64 x180, .int .i64 x181, .int .i64 x182, .int .i64 x183] 33) fun B184 w185 => Runs Try.prog (Builtin.append_ #[27, 27] 27 #[.slice A179 n179 c179, .slice (some ⟨B184, 0, none⟩) 1 1]) w185 fun v187 w186 => ∃ A188 n188 c188, v187 = (.slice A188 n188 c188) ∧ (stW w186 (.add ⟨B137, 0, none⟩ 1) (.slice A188 n188 c188) fun w189 => ldS w189 ⟨B137, 0, none⟩ fun A190 n190 c190 => ldS w189 (.add ⟨B137, 0, none⟩ 1) fun A191 n191 c191 => stW w189 ⟨B1, 0, none⟩ (.slice A190 n190 c190) fun w192 => stW w192 (.add ⟨B1, 0, none⟩ 1) (.slice A191 n191 c191) fun w193 => ldS w193 ⟨B1, 0, none⟩ fun A194 n194 c194 => ldS w193 (.add ⟨B1, 0, none⟩ 1) fun A195 n195 c195 => ldS w193 (.add ⟨B1, 0, none⟩ 2) fun A196 n196 c196 => ldS w193 (.add ⟨B1, 0, none⟩ 3) fun A197 n197 c197 => stW w193 ⟨B5, 0, none⟩ (.slice A194 n194 c194) fun w198 => stW w198 (.add ⟨B5, 0, none⟩ 1) (.slice A195 n195 c195) fun w199 => stW w199 (.add ⟨B5, 0, none⟩ 2) (.slice A196 n196 c196) fun w200 => stW w200 (.add ⟨B5, 0, none⟩ 3) (.slice A197 n197 c197) fun w201 => ldS w201 ⟨B5, 0, none⟩ fun A202 n202 c202 => ldS w201 (.add ⟨B5, 0, none⟩ 1) fun A203 n203 c203 => ldS w201 (.add ⟨B5, 0, none⟩ 2) fun A204 n204 c204 => ldS w201 (.add ⟨B5, 0, none⟩ 3) fun A205 n205 c205 => Q (.returned (.tuple #[.agg #[.slice A202 n202 c202, .slice A203 n203 c203, .slice A204 n204 c204, .slice A205 n205 c205], .int .i64 0])) w201)) (ldS w178 ⟨B137, 0, none⟩ fun A206 n206 c206 => ldS w178 (.add ⟨B137, 0, none⟩ 1) fun A207 n207 c207 => stW w178 ⟨B1, 0, none⟩ (.slice A206 n206 c206) fun w208 => stW w208 (.add ⟨B1, 0, none⟩ 1) (.slice A207 n207 c207) fun w209 => ldS w209 ⟨B1, 0, none⟩ fun A210 n210 c210 => ldS w209 (.add ⟨B1, 0, none⟩ 1) fun A211 n211 c211 => ldS w209 (.add ⟨B1, 0, none⟩ 2) fun A212 n212 c212 => ldS w209 (.add ⟨B1, 0, none⟩ 3) fun A213 n213 c213 => stW w209 ⟨B5, 0, none⟩ (.slice A210 n210 c210) fun w214 => stW w214 (.add ⟨B5, 0, none⟩ 1) (.slice A211 n211 c211) fun w215 => stW w215 (.add ⟨B5, 0, none⟩ 2) (.slice A212 n212 c212) fun w216 => stW w216 (.add ⟨B5, 0, none⟩ 3) (.slice A213 n213 c213) fun w217 => ldS w217 ⟨B5, 0, none⟩ fun A218 n218 c218 => ldS w217 (.add ⟨B5, 0, none⟩ 1) fun A219 n219 c219 => ldS w217 (.add ⟨B5, 0, none⟩ 2) fun A220 n220 c220 => ldS w217 (.add ⟨B5, 0, none⟩ 3) fun A221 n221 c221 => Q (.returned (.tuple #[.agg #[.slice A218 n218 c218, .slice A219 n219 c219, .slice A220 n220 c220, .slice A221 n221 c221], .int .i64 0])) w217))))))))))))))))
def D : Nat → Option DH := dtab [(15, .simple [.fst 0, .fst 1, .fst 2, .fst 3, .fst 4, .fst 5, .fst 6, .fst 7, .fst 8, .fst 9, .fst 10, .fst 11] [.fst 12, .fst 13]), (18, .held [.fst 0, .fst 1, .fst 2, .fst 3, .fst 4, .fst 5, .fst 6, .fst 7, .eff 8] [.eff 9, .fst 10, .eff 11])]
def j1LO : LO := ⟨[2, 3, 4, 8, 9, 10], [], [], []⟩
def j1T : Spec := fun Q σ w => gAd (σ 2) fun at2 => gAd (σ 8) fun at8 => gInt .i64 (σ 10) fun xt10 => j1 at2 at8 xt10 w (fun w => ∀ d : Fr, Q .normal (ov d [(2, .pointer (some at2)), (3, σ 3), (4, σ 4), (8, .pointer (some at8)), (9, σ 9), (10, .int .i64 xt10)]) w)
def j1tb : List (List Nat × Spec) := []
noncomputable def j1b : Code := (subC [1, 0, 0, 1, 0, 0, 1, 0, 1, 1, 1, 1, 1, 1, 1, 1] body).getD .skip
theorem j1_eq (at2 at8 : Addr) (xt10 : Int) (Q : PQ) (σ : Fr) (w : World) : j1 at2 at8 xt10 w (fun w => ∀ d : Fr, Q .normal (ov d [(2, .pointer (some at2)), (3, σ 3), (4, σ 4), (8, .pointer (some at8)), (9, σ 9), (10, .int .i64 xt10)]) w) = codeW Try.prog hT 112 D (tab j1tb) [1, 0, 0, 1, 0, 0, 1, 0, 1, 1, 1, 1, 1, 1, 1, 1] j1b (widen j1LO Q) (ov σ [(2, .pointer (some at2)), (8, .pointer (some at8)), (10, .int .i64 xt10)]) w := by kernel_rfl
theorem j1_snd : ∀ c, subC [1, 0, 0, 1, 0, 0, 1, 0, 1, 1, 1, 1, 1, 1, 1, 1] body = some c → Snd Try.prog 112 c j1T := by
 refine cut_of (hT := hT) (D := D) (l := j1tb) (b := j1b) (lo := j1LO) (by kernel_rfl) (by
  intro x hx
  simp only [j1tb, List.not_mem_nil] at hx
  ) (by kernel_rfl) (by kernel_rfl) ?_
 intro Q σ w h
 unfold j1T at h
 obtain ⟨at2, h2, h⟩ := gAd_elim h
 obtain ⟨at8, h8, h⟩ := gAd_elim h
 obtain ⟨xt10, h10, h⟩ := gInt_elim h
 rw [j1_eq (σ := σ)] at h
 have e : (ov σ [(2, .pointer (some at2)), (8, .pointer (some at8)), (10, .int .i64 xt10)]) = σ := ov_self (by simp [h2, h8, h10])
 rw [e] at h
 exact h
def l0LO : LO := ⟨[], [], [(0, [2, 3, 4, 8, 9])], []⟩
def l0Tk (k : Nat) : Spec := fun Q σ w => gAd (σ 2) fun at2 => gAd (σ 3) fun at3 => gAd (σ 8) fun at8 => gBool (σ 9) fun bt9 => gInt .i64 (σ 10) fun xt10 => l0 k at2 at3 at8 bt9 xt10 w (fun bq9 w => ∀ d : Fr, Q (.exit 0) (ov d [(2, .pointer (some at2)), (3, .pointer (some at3)), (4, σ 4), (8, .pointer (some at8)), (9, .bool bq9)]) w)
def l0T : Spec := fun Q σ w => ∃ k, l0Tk k Q σ w
def l0tb : List (List Nat × Spec) := [([1, 0, 0, 1, 0, 0, 1, 0, 1, 1, 1, 1, 1, 1, 1, 1], j1T)]
noncomputable def l0b : Code := (subC [0, 0, 1, 0, 1, 1, 1, 1, 1, 1, 1, 1] body).getD .skip
theorem l0_eq (k : Nat) (at2 at3 at8 : Addr) (bt9 : Bool) (xt10 : Int) (Q : PQ) (σ : Fr) (w : World) : l0 (k + 1) at2 at3 at8 bt9 xt10 w (fun bq9 w => ∀ d : Fr, Q (.exit 0) (ov d [(2, .pointer (some at2)), (3, .pointer (some at3)), (4, σ 4), (8, .pointer (some at8)), (9, .bool bq9)]) w) = codeW Try.prog hT 112 D (tab l0tb) [0, 0, 1, 0, 1, 1, 1, 1, 1, 1, 1, 1] l0b (thenQ (l0Tk k Q) (widen l0LO Q)) (ov σ [(2, .pointer (some at2)), (3, .pointer (some at3)), (8, .pointer (some at8)), (9, .bool bt9), (10, .int .i64 xt10)]) w := by cases bt9 <;> kernel_rfl
theorem l0_snd : ∀ c, subC [0, 1, 0, 1, 1, 1, 1, 1, 1, 1, 1] body = some c → Snd Try.prog 112 c l0T := by
 refine loop_of (hT := hT) (D := D) (l := l0tb) (b := l0b) (lo := l0LO) (by kernel_rfl) (by
  intro x hx
  simp only [l0tb, List.mem_cons, List.not_mem_nil, or_false] at hx
  subst hx
  exact j1_snd) (by kernel_rfl) (by kernel_rfl) ?_ ?_
 ·intro Q σ w h
  unfold l0Tk at h
  obtain ⟨_, _, h⟩ := gAd_elim h
  obtain ⟨_, _, h⟩ := gAd_elim h
  obtain ⟨_, _, h⟩ := gAd_elim h
  obtain ⟨_, _, h⟩ := gBool_elim h
  obtain ⟨_, _, h⟩ := gInt_elim h
  exact h
 ·intro k Q σ w h
  unfold l0Tk at h
  obtain ⟨at2, h2, h⟩ := gAd_elim h
  obtain ⟨at3, h3, h⟩ := gAd_elim h
  obtain ⟨at8, h8, h⟩ := gAd_elim h
  obtain ⟨bt9, h9, h⟩ := gBool_elim h
  obtain ⟨xt10, h10, h⟩ := gInt_elim h
  rw [l0_eq (σ := σ)] at h
  have e : (ov σ [(2, .pointer (some at2)), (3, .pointer (some at3)), (8, .pointer (some at8)), (9, .bool bt9), (10, .int .i64 xt10)]) = σ := ov_self (by simp [h2, h3, h8, h9, h10])
  rw [e] at h
  exact h
def tb : List (List Nat × Spec) := [([1, 0, 0, 1, 0, 0, 1, 0, 1, 1, 1, 1, 1, 1, 1, 1], j1T), ([0, 1, 0, 1, 1, 1, 1, 1, 1, 1, 1], l0T)]
variable (Aa0_0 : Option Addr) (na0_0 ca0_0 : Nat) (Aa0_1 : Option Addr) (na0_1 ca0_1 : Nat) (Aa0_2 : Option Addr) (na0_2 ca0_2 : Nat) (Aa0_3 : Option Addr) (na0_3 ca0_3 : Nat) (xa1_0 xa1_1 xa1_2 xa1_3 : Int) (w : World) (Q : Ending → World → Prop)
theorem wp_eq : wp Aa0_0 na0_0 ca0_0 Aa0_1 na0_1 ca0_1 Aa0_2 na0_2 ca0_2 Aa0_3 na0_3 ca0_3 xa1_0 xa1_1 xa1_2 xa1_3 w Q = codeW Try.prog hT 112 D (tab tb) [] body (topQ Try.prog hT 112 [.cell 4 31, .tmp 5] Q) (argsF [.agg #[.slice Aa0_0 na0_0 ca0_0, .slice Aa0_1 na0_1 ca0_1, .slice Aa0_2 na0_2 ca0_2, .slice Aa0_3 na0_3 ca0_3], .agg #[.int .i64 xa1_0, .int .i64 xa1_1, .int .i64 xa1_2, .int .i64 xa1_3]]) w := by kernel_rfl
theorem ok (h : wp Aa0_0 na0_0 ca0_0 Aa0_1 na0_1 ca0_1 Aa0_2 na0_2 ca0_2 Aa0_3 na0_3 ca0_3 xa1_0 xa1_1 xa1_2 xa1_3 w Q) : Calls Try.prog 43 #[.agg #[.slice Aa0_0 na0_0 ca0_0, .slice Aa0_1 na0_1 ca0_1, .slice Aa0_2 na0_2 ca0_2, .slice Aa0_3 na0_3 ca0_3], .agg #[.int .i64 xa1_0, .int .i64 xa1_1, .int .i64 xa1_2, .int .i64 xa1_3]] w Q := by
 rw [wp_eq] at h
 refine calls_of_codeW (c := body) (rs := [.cell 4 31, .tmp 5]) Try.func43 ?_ ?_ ?_ ?_ ?_ (tab_snd (by
  intro x hx
  simp only [tb, List.mem_cons, List.not_mem_nil, or_false] at hx
  rcases hx with rfl | rfl
  ·exact j1_snd
  ·exact l0_snd)) ?_ h <;> kernel_rfl
end f_ref16_Link
namespace f_ref16_Edge
noncomputable def body : Code := (Try.f44.body).getD .skip
def wp (Aa0_0 : Option Addr) (na0_0 ca0_0 : Nat) (Aa0_1 : Option Addr) (na0_1 ca0_1 : Nat) (Aa0_2 : Option Addr) (na0_2 ca0_2 : Nat) (Aa0_3 : Option Addr) (na0_3 ca0_3 : Nat) (xa1 : Int) (w : World) (Q : Ending → World → Prop) : Prop := alW w (.cells #[.slice Aa0_0 na0_0 ca0_0, .slice Aa0_1 na0_1 ca0_1, .slice Aa0_2 na0_2 ca0_2, .slice Aa0_3 na0_3 ca0_3] 31) fun B1 w2 => alW w2 (.cells #[.int .i64 0, .int .i64 0, .int .i64 0, .int .i64 0] 33) fun B3 w4 => ldS w4 (.add ⟨B1, 0, none⟩ 1) fun A5 n5 c5 => Calls Try.prog 69 #[.agg #[.slice none 0 0, .slice A5 n5 c5, .slice none 0 0], .int .i64 xa1] w4 fun e6 w7 => ∃ x8_0_0 x8_0_1 x8_0_2 x8_0_3 b8_1, e6 = .returned (.tuple #[.agg #[.int .i64 x8_0_0, .int .i64 x8_0_1, .int .i64 x8_0_2, .int .i64 x8_0_3], .bool b8_1]) ∧ (stW w7 ⟨B3, 0, none⟩ (.int .i64 x8_0_0) fun w9 => stW w9 (.add ⟨B3, 0, none⟩ 1) (.int .i64 x8_0_1) fun w10 => stW w10 (.add ⟨B3, 0, none⟩ 2) (.int .i64 x8_0_2) fun w11 => stW w11 (.add ⟨B3, 0, none⟩ 3) (.int .i64 x8_0_3) fun w12 => ldI w12 ⟨B3, 0, none⟩ .i64 fun x13 => ldI w12 (.add ⟨B3, 0, none⟩ 1) .i64 fun x14 => ldI w12 (.add ⟨B3, 0, none⟩ 2) .i64 fun x15 => ldI w12 (.add ⟨B3, 0, none⟩ 3) .i64 fun x16 => Q (.returned (.tuple #[.agg #[.int .i64 x13, .int .i64 x14, .int .i64 x15, .int .i64 x16], .bool b8_1])) w12)
def D : Nat → Option DH := dtab []
def tb : List (List Nat × Spec) := []
variable (Aa0_0 : Option Addr) (na0_0 ca0_0 : Nat) (Aa0_1 : Option Addr) (na0_1 ca0_1 : Nat) (Aa0_2 : Option Addr) (na0_2 ca0_2 : Nat) (Aa0_3 : Option Addr) (na0_3 ca0_3 : Nat) (xa1 : Int) (w : World) (Q : Ending → World → Prop)
theorem wp_eq : wp Aa0_0 na0_0 ca0_0 Aa0_1 na0_1 ca0_1 Aa0_2 na0_2 ca0_2 Aa0_3 na0_3 ca0_3 xa1 w Q = codeW Try.prog hT 14 D (tab tb) [] body (topQ Try.prog hT 14 [.cell 4 33, .tmp 5] Q) (argsF [.agg #[.slice Aa0_0 na0_0 ca0_0, .slice Aa0_1 na0_1 ca0_1, .slice Aa0_2 na0_2 ca0_2, .slice Aa0_3 na0_3 ca0_3], .int .i64 xa1]) w := by kernel_rfl
theorem ok (h : wp Aa0_0 na0_0 ca0_0 Aa0_1 na0_1 ca0_1 Aa0_2 na0_2 ca0_2 Aa0_3 na0_3 ca0_3 xa1 w Q) : Calls Try.prog 44 #[.agg #[.slice Aa0_0 na0_0 ca0_0, .slice Aa0_1 na0_1 ca0_1, .slice Aa0_2 na0_2 ca0_2, .slice Aa0_3 na0_3 ca0_3], .int .i64 xa1] w Q := by
 rw [wp_eq] at h
 refine calls_of_codeW (c := body) (rs := [.cell 4 33, .tmp 5]) Try.func44 ?_ ?_ ?_ ?_ ?_ (tab_snd (by
  intro x hx
  simp only [tb, List.not_mem_nil] at hx
  )) ?_ h <;> kernel_rfl
end f_ref16_Edge
namespace f_ref06_Way
noncomputable def body : Code := (Try.f47.body).getD .skip
def l1 : Nat → Option Addr → Nat → Nat → Int → Option Addr → Nat → Nat → Int → Int → World → (Int → World → Prop) → Prop | 0, _, _, _, _, _, _, _, _, _, _, _ => False | k + 1, At0, nt0, ct0, xt9, At10, nt10, ct10, xt11, xt12, w, K2 => sel (decide (xt12 < (nt0 : Int))) (sel (decide (xt11 < 0)) (optB At0 fun a5 => req (decide (0 ≤ xt12 ∧ xt12 < (nt0 : Int))) <| ldI w ((a5.add (xt12.toNat * 4)).add 1) .i64 fun x6 => sel (x6 == xt9) (optB At0 fun a7 => req (decide (0 ≤ xt12 ∧ xt12 < (nt0 : Int))) <| ldI w (a7.add (xt12.toNat * 4)) .i64 fun x8 => Calls Try.prog 27 #[.slice At10 nt10 ct10, .int .i64 x8] w fun e9 w10 => ∃ b11, e9 = .returned (.bool b11) ∧ (sel (!b11) (l1 k At0 nt0 ct0 xt9 At10 nt10 ct10 xt12 (IntKind.i64.wrap (xt12 + 1)) w10 K2) (l1 k At0 nt0 ct0 xt9 At10 nt10 ct10 xt11 (IntKind.i64.wrap (xt12 + 1)) w10 K2))) (optB At0 fun a12 => req (decide (0 ≤ xt12 ∧ xt12 < (nt0 : Int))) <| ldI w ((a12.add (xt12.toNat * 4)).add 2) .i64 fun x13 => sel (x13 == xt9) (optB At0 fun a14 => req (decide (0 ≤ xt12 ∧ xt12 < (nt0 : Int))) <| ldI w (a14.add (xt12.toNat * 4)) .i64 fun x15 => Calls Try.prog 27 #[.slice At10 nt10 ct10, .int .i64 x15] w fun e16 w17 => ∃ b18, e16 = .returned (.bool b18) ∧ (sel (!b18) (l1 k At0 nt0 ct0 xt9 At10 nt10 ct10 xt12 (IntKind.i64.wrap (xt12 + 1)) w17 K2) (l1 k At0 nt0 ct0 xt9 At10 nt10 ct10 xt11 (IntKind.i64.wrap (xt12 + 1)) w17 K2))) (l1 k At0 nt0 ct0 xt9 At10 nt10 ct10 xt11 (IntKind.i64.wrap (xt12 + 1)) w K2))) (l1 k At0 nt0 ct0 xt9 At10 nt10 ct10 xt11 (IntKind.i64.wrap (xt12 + 1)) w K2)) (K2 xt11 w)
def l0 : Nat → Option Addr → Nat → Nat → Int → Option Addr → Nat → Nat → Int → Option Addr → Nat → Nat → World → ((Option Addr) → Nat → Nat → World → Prop) → ((Option Addr) → Nat → Nat → Bool → World → Prop) → Prop | 0, _, _, _, _, _, _, _, _, _, _, _, _, _, _ => False | k + 1, At0, nt0, ct0, xt2, At8, nt8, ct8, xt9, At10, nt10, ct10, w, K0, Kr => sel (xt9 != xt2) (∃ k54, l1 k54 At0 nt0 ct0 xt9 At10 nt10 ct10 (-1 : Int) 0 w (fun x19 w20 => ∀ _ : Fr, sel (decide (x19 ≥ 0)) (optB At0 fun a21 => req (decide (0 ≤ x19 ∧ x19 < (nt0 : Int))) <| ldI w20 (a21.add (x19.toNat * 4)) .i64 fun x22 => alW w20 (.cells #[.int .i64 x22] 3) fun B23 w24 => Runs Try.prog (Builtin.append_ #[22, 22] 22 #[.slice At10 nt10 ct10, .slice (some ⟨B23, 0, none⟩) 1 1]) w24 fun v26 w25 => ∃ A27 n27 c27, v26 = (.slice A27 n27 c27) ∧ (optB At0 fun a28 => req (decide (0 ≤ x19 ∧ x19 < (nt0 : Int))) <| ldI w25 (a28.add (x19.toNat * 4)) .i64 fun x29 => ldI w25 ((a28.add (x19.toNat * 4)).add 1) .i64 fun x30 => ldI w25 ((a28.add (x19.toNat * 4)).add 2) .i64 fun x31 => ldI w25 ((a28.add (x19.toNat * 4)).add 3) .i64 fun x32 => alW w25 (.cells #[.int .i64 x29, .int .i64 x30, .int .i64 x31, .int .i64 x32] 33) fun B33 w34 => Runs Try.prog (Builtin.append_ #[27, 27] 27 #[.slice At8 nt8 ct8, .slice (some ⟨B33, 0, none⟩) 1 1]) w34 fun v36 w35 => ∃ A37 n37 c37, v36 = (.slice A37 n37 c37) ∧ (optB At0 fun a38 => req (decide (0 ≤ x19 ∧ x19 < (nt0 : Int))) <| ldI w35 (a38.add (x19.toNat * 4)) .i64 fun x39 => ldI w35 ((a38.add (x19.toNat * 4)).add 1) .i64 fun x40 => ldI w35 ((a38.add (x19.toNat * 4)).add 2) .i64 fun x41 => ldI w35 ((a38.add (x19.toNat * 4)).add 3) .i64 fun x42 => Calls Try.prog 70 #[.agg #[.int .i64 x39, .int .i64 x40, .int .i64 x41, .int .i64 x42], .int .i64 xt9] w35 fun e43 w44 => ∃ x45, e43 = .returned (.int .i64 x45) ∧ (l0 k At0 nt0 ct0 xt2 A37 n37 c37 x45 A27 n27 c27 w44 K0 Kr)))) (sel ((nt8 : Int) == 0) (Kr none 0 0 false w20) (optB At8 fun a46 => req (decide (0 ≤ (IntKind.i64.wrap ((nt8 : Int) - 1)) ∧ (IntKind.i64.wrap ((nt8 : Int) - 1)) < (nt8 : Int))) <| ldI w20 (a46.add ((IntKind.i64.wrap ((nt8 : Int) - 1)).toNat * 4)) .i64 fun x47 => ldI w20 ((a46.add ((IntKind.i64.wrap ((nt8 : Int) - 1)).toNat * 4)).add 1) .i64 fun x48 => ldI w20 ((a46.add ((IntKind.i64.wrap ((nt8 : Int) - 1)).toNat * 4)).add 2) .i64 fun x49 => ldI w20 ((a46.add ((IntKind.i64.wrap ((nt8 : Int) - 1)).toNat * 4)).add 3) .i64 fun x50 => Calls Try.prog 70 #[.agg #[.int .i64 x47, .int .i64 x48, .int .i64 x49, .int .i64 x50], .int .i64 xt9] w20 fun e51 w52 => ∃ x53, e51 = .returned (.int .i64 x53) ∧ (req (decide (0 ≤ (IntKind.i64.wrap ((nt8 : Int) - 1)) ∧ (IntKind.i64.wrap ((nt8 : Int) - 1)) ≤ (ct8 : Int))) <| l0 k At0 nt0 ct0 xt2 (slA At8 0 ct8 4) ((IntKind.i64.wrap ((nt8 : Int) - 1)).toNat - 0) (ct8 - 0) x53 At10 nt10 ct10 w52 K0 Kr))))) (K0 At8 nt8 ct8 w)
def wp (Aa0 : Option Addr) (na0 ca0 : Nat) (xa1 xa2 : Int) (w : World) (Q : Ending → World → Prop) : Prop := alW w (.cells #[] 33) fun B1 w2 => alW w2 (.cells #[] 3) fun B3 w4 => ∃ k60, l0 k60 Aa0 na0 ca0 xa2 (some ⟨B1, 0, none⟩) 0 0 xa1 (some ⟨B3, 0, none⟩) 0 0 w4 (fun A55 n55 c55 w56 => ∀ _ : Fr, Q (.returned (.tuple #[.slice A55 n55 c55, .bool true])) w56) (fun A57 n57 c57 b58 w59 => ∀ _ : Fr, Q (.returned (.tuple #[.slice A57 n57 c57, .bool b58])) w59)
def D : Nat → Option DH := dtab []
def l1LO : LO := ⟨[], [], [(2, [0, 2, 8, 9, 10, 11])], []⟩
def l1Tk (k : Nat) : Spec := fun Q σ w => gSlice (σ 0) fun At0 nt0 ct0 => gInt .i64 (σ 9) fun xt9 => gSlice (σ 10) fun At10 nt10 ct10 => gInt .i64 (σ 11) fun xt11 => gInt .i64 (σ 12) fun xt12 => l1 k At0 nt0 ct0 xt9 At10 nt10 ct10 xt11 xt12 w (fun xq11 w => ∀ d : Fr, Q (.exit 2) (ov d [(0, .slice At0 nt0 ct0), (2, σ 2), (8, σ 8), (9, .int .i64 xt9), (10, .slice At10 nt10 ct10), (11, .int .i64 xq11)]) w)
def l1T : Spec := fun Q σ w => ∃ k, l1Tk k Q σ w
def l1tb : List (List Nat × Spec) := []
noncomputable def l1b : Code := (subC [0, 0, 1, 0, 1, 0, 1, 0, 0, 0, 1, 1, 1, 1] body).getD .skip
theorem l1_eq (k : Nat) (At0 : Option Addr) (nt0 ct0 : Nat) (xt9 : Int) (At10 : Option Addr) (nt10 ct10 : Nat) (xt11 xt12 : Int) (Q : PQ) (σ : Fr) (w : World) : l1 (k + 1) At0 nt0 ct0 xt9 At10 nt10 ct10 xt11 xt12 w (fun xq11 w => ∀ d : Fr, Q (.exit 2) (ov d [(0, .slice At0 nt0 ct0), (2, σ 2), (8, σ 8), (9, .int .i64 xt9), (10, .slice At10 nt10 ct10), (11, .int .i64 xq11)]) w) = codeW Try.prog hT 96 D (tab l1tb) [0, 0, 1, 0, 1, 0, 1, 0, 0, 0, 1, 1, 1, 1] l1b (thenQ (l1Tk k Q) (widen l1LO Q)) (ov σ [(0, .slice At0 nt0 ct0), (9, .int .i64 xt9), (10, .slice At10 nt10 ct10), (11, .int .i64 xt11), (12, .int .i64 xt12)]) w := by kernel_rfl
theorem l1_snd : ∀ c, subC [0, 1, 0, 1, 0, 1, 0, 0, 0, 1, 1, 1, 1] body = some c → Snd Try.prog 96 c l1T := by
 refine loop_of (hT := hT) (D := D) (l := l1tb) (b := l1b) (lo := l1LO) (by kernel_rfl) (by
  intro x hx
  simp only [l1tb, List.not_mem_nil] at hx
  ) (by kernel_rfl) (by kernel_rfl) ?_ ?_
 ·intro Q σ w h
  unfold l1Tk at h
  obtain ⟨_, _, _, _, h⟩ := gSlice_elim h
  obtain ⟨_, _, h⟩ := gInt_elim h
  obtain ⟨_, _, _, _, h⟩ := gSlice_elim h
  obtain ⟨_, _, h⟩ := gInt_elim h
  obtain ⟨_, _, h⟩ := gInt_elim h
  exact h
 ·intro k Q σ w h
  unfold l1Tk at h
  obtain ⟨At0, nt0, ct0, h0, h⟩ := gSlice_elim h
  obtain ⟨xt9, h9, h⟩ := gInt_elim h
  obtain ⟨At10, nt10, ct10, h10, h⟩ := gSlice_elim h
  obtain ⟨xt11, h11, h⟩ := gInt_elim h
  obtain ⟨xt12, h12, h⟩ := gInt_elim h
  rw [l1_eq (σ := σ)] at h
  have e : (ov σ [(0, .slice At0 nt0 ct0), (9, .int .i64 xt9), (10, .slice At10 nt10 ct10), (11, .int .i64 xt11), (12, .int .i64 xt12)]) = σ := ov_self (by simp [h0, h9, h10, h11, h12])
  rw [e] at h
  exact h
def l0LO : LO := ⟨[], [6, 7], [(0, [8])], []⟩
def l0Tk (k : Nat) : Spec := fun Q σ w => gSlice (σ 0) fun At0 nt0 ct0 => gInt .i64 (σ 2) fun xt2 => gSlice (σ 8) fun At8 nt8 ct8 => gInt .i64 (σ 9) fun xt9 => gSlice (σ 10) fun At10 nt10 ct10 => l0 k At0 nt0 ct0 xt2 At8 nt8 ct8 xt9 At10 nt10 ct10 w (fun Aq8 nq8 cq8 w => ∀ d : Fr, Q (.exit 0) (ov d [(8, .slice Aq8 nq8 cq8)]) w) (fun Aq6 nq6 cq6 bq7 w => ∀ d : Fr, Q .ret (ov d [(6, .slice Aq6 nq6 cq6), (7, .bool bq7)]) w)
def l0T : Spec := fun Q σ w => ∃ k, l0Tk k Q σ w
def l0tb : List (List Nat × Spec) := [([0, 1, 0, 1, 0, 1, 0, 0, 0, 1, 1, 1, 1], l1T)]
noncomputable def l0b : Code := (subC [0, 0, 0, 1, 1, 1, 1] body).getD .skip
theorem l0_eq (k : Nat) (At0 : Option Addr) (nt0 ct0 : Nat) (xt2 : Int) (At8 : Option Addr) (nt8 ct8 : Nat) (xt9 : Int) (At10 : Option Addr) (nt10 ct10 : Nat) (Q : PQ) (σ : Fr) (w : World) : l0 (k + 1) At0 nt0 ct0 xt2 At8 nt8 ct8 xt9 At10 nt10 ct10 w (fun Aq8 nq8 cq8 w => ∀ d : Fr, Q (.exit 0) (ov d [(8, .slice Aq8 nq8 cq8)]) w) (fun Aq6 nq6 cq6 bq7 w => ∀ d : Fr, Q .ret (ov d [(6, .slice Aq6 nq6 cq6), (7, .bool bq7)]) w) = codeW Try.prog hT 96 D (tab l0tb) [0, 0, 0, 1, 1, 1, 1] l0b (thenQ (l0Tk k Q) (widen l0LO Q)) (ov σ [(0, .slice At0 nt0 ct0), (2, .int .i64 xt2), (8, .slice At8 nt8 ct8), (9, .int .i64 xt9), (10, .slice At10 nt10 ct10)]) w := by kernel_rfl
theorem l0_snd : ∀ c, subC [0, 0, 1, 1, 1, 1] body = some c → Snd Try.prog 96 c l0T := by
 refine loop_of (hT := hT) (D := D) (l := l0tb) (b := l0b) (lo := l0LO) (by kernel_rfl) (by
  intro x hx
  simp only [l0tb, List.mem_cons, List.not_mem_nil, or_false] at hx
  subst hx
  exact l1_snd) (by kernel_rfl) (by kernel_rfl) ?_ ?_
 ·intro Q σ w h
  unfold l0Tk at h
  obtain ⟨_, _, _, _, h⟩ := gSlice_elim h
  obtain ⟨_, _, h⟩ := gInt_elim h
  obtain ⟨_, _, _, _, h⟩ := gSlice_elim h
  obtain ⟨_, _, h⟩ := gInt_elim h
  obtain ⟨_, _, _, _, h⟩ := gSlice_elim h
  exact h
 ·intro k Q σ w h
  unfold l0Tk at h
  obtain ⟨At0, nt0, ct0, h0, h⟩ := gSlice_elim h
  obtain ⟨xt2, h2, h⟩ := gInt_elim h
  obtain ⟨At8, nt8, ct8, h8, h⟩ := gSlice_elim h
  obtain ⟨xt9, h9, h⟩ := gInt_elim h
  obtain ⟨At10, nt10, ct10, h10, h⟩ := gSlice_elim h
  rw [l0_eq (σ := σ)] at h
  have e : (ov σ [(0, .slice At0 nt0 ct0), (2, .int .i64 xt2), (8, .slice At8 nt8 ct8), (9, .int .i64 xt9), (10, .slice At10 nt10 ct10)]) = σ := ov_self (by simp [h0, h2, h8, h9, h10])
  rw [e] at h
  exact h
def tb : List (List Nat × Spec) := [([0, 1, 0, 1, 0, 1, 0, 0, 0, 1, 1, 1, 1], l1T), ([0, 0, 1, 1, 1, 1], l0T)]
variable (Aa0 : Option Addr) (na0 ca0 : Nat) (xa1 xa2 : Int) (w : World) (Q : Ending → World → Prop)
theorem wp_eq : wp Aa0 na0 ca0 xa1 xa2 w Q = codeW Try.prog hT 96 D (tab tb) [] body (topQ Try.prog hT 96 [.tmp 6, .tmp 7] Q) (argsF [.slice Aa0 na0 ca0, .int .i64 xa1, .int .i64 xa2]) w := by kernel_rfl
theorem ok (h : wp Aa0 na0 ca0 xa1 xa2 w Q) : Calls Try.prog 47 #[.slice Aa0 na0 ca0, .int .i64 xa1, .int .i64 xa2] w Q := by
 rw [wp_eq] at h
 refine calls_of_codeW (c := body) (rs := [.tmp 6, .tmp 7]) Try.func47 ?_ ?_ ?_ ?_ ?_ (tab_snd (by
  intro x hx
  simp only [tb, List.mem_cons, List.not_mem_nil, or_false] at hx
  rcases hx with rfl | rfl
  ·exact l1_snd
  ·exact l0_snd)) ?_ h <;> kernel_rfl
end f_ref06_Way
namespace f_ref06_Most
noncomputable def body : Code := (Try.f48.body).getD .skip
def l0 : Nat → Option Addr → Nat → Nat → Addr → Int → World → (World → Prop) → Prop | 0, _, _, _, _, _, _, _ => False | k + 1, At0, nt0, ct0, at3, xt4, w, K0 => sel (decide (xt4 < (nt0 : Int))) (drW w fun w9 => sel (xt4 == 0) (optB At0 fun a11 => req (decide (0 ≤ xt4 ∧ xt4 < (nt0 : Int))) <| ldI w9 (a11.add (xt4.toNat * 4)) .i64 fun x12 => ldI w9 ((a11.add (xt4.toNat * 4)).add 1) .i64 fun x13 => ldI w9 ((a11.add (xt4.toNat * 4)).add 2) .i64 fun x14 => ldI w9 ((a11.add (xt4.toNat * 4)).add 3) .i64 fun x15 => stW w9 at3 (.int .i64 x12) fun w16 => stW w16 (at3.add 1) (.int .i64 x13) fun w17 => stW w17 (at3.add 2) (.int .i64 x14) fun w18 => stW w18 (at3.add 3) (.int .i64 x15) fun w19 => l0 k At0 nt0 ct0 at3 (IntKind.i64.wrap (xt4 + 1)) w19 K0) (ldI w9 at3 .i64 fun x20 => ldI w9 (at3.add 1) .i64 fun x21 => ldI w9 (at3.add 2) .i64 fun x22 => ldI w9 (at3.add 3) .i64 fun x23 => optB At0 fun a24 => req (decide (0 ≤ xt4 ∧ xt4 < (nt0 : Int))) <| ldI w9 (a24.add (xt4.toNat * 4)) .i64 fun x25 => ldI w9 ((a24.add (xt4.toNat * 4)).add 1) .i64 fun x26 => ldI w9 ((a24.add (xt4.toNat * 4)).add 2) .i64 fun x27 => ldI w9 ((a24.add (xt4.toNat * 4)).add 3) .i64 fun x28 => Calls Try.prog 71 #[.agg #[.int .i64 x20, .int .i64 x21, .int .i64 x22, .int .i64 x23], .agg #[.int .i64 x25, .int .i64 x26, .int .i64 x27, .int .i64 x28]] w9 fun e29 w30 => ∃ b31, e29 = .returned (.bool b31) ∧ (sel b31 (optB At0 fun a32 => req (decide (0 ≤ xt4 ∧ xt4 < (nt0 : Int))) <| ldI w30 (a32.add (xt4.toNat * 4)) .i64 fun x33 => ldI w30 ((a32.add (xt4.toNat * 4)).add 1) .i64 fun x34 => ldI w30 ((a32.add (xt4.toNat * 4)).add 2) .i64 fun x35 => ldI w30 ((a32.add (xt4.toNat * 4)).add 3) .i64 fun x36 => stW w30 at3 (.int .i64 x33) fun w37 => stW w37 (at3.add 1) (.int .i64 x34) fun w38 => stW w38 (at3.add 2) (.int .i64 x35) fun w39 => stW w39 (at3.add 3) (.int .i64 x36) fun w40 => l0 k At0 nt0 ct0 at3 (IntKind.i64.wrap (xt4 + 1)) w40 K0) (l0 k At0 nt0 ct0 at3 (IntKind.i64.wrap (xt4 + 1)) w30 K0)))) (K0 w)
def wp (Aa0 : Option Addr) (na0 ca0 : Nat) (w : World) (Q : Ending → World → Prop) : Prop := alW w (.cells #[.int .i64 0, .int .i64 0, .int .i64 0, .int .i64 0] 33) fun B1 w2 => alW w2 (.cells #[.int .i64 0, .int .i64 0, .int .i64 0, .int .i64 0] 33) fun B3 w4 => stW w4 ⟨B3, 0, none⟩ (.int .i64 0) fun w5 => stW w5 (.add ⟨B3, 0, none⟩ 1) (.int .i64 0) fun w6 => stW w6 (.add ⟨B3, 0, none⟩ 2) (.int .i64 0) fun w7 => stW w7 (.add ⟨B3, 0, none⟩ 3) (.int .i64 0) fun w8 => ∃ k54, l0 k54 Aa0 na0 ca0 ⟨B3, 0, none⟩ 0 w8 (fun w41 => ∀ _ : Fr, ldI w41 ⟨B3, 0, none⟩ .i64 fun x42 => ldI w41 (.add ⟨B3, 0, none⟩ 1) .i64 fun x43 => ldI w41 (.add ⟨B3, 0, none⟩ 2) .i64 fun x44 => ldI w41 (.add ⟨B3, 0, none⟩ 3) .i64 fun x45 => stW w41 ⟨B1, 0, none⟩ (.int .i64 x42) fun w46 => stW w46 (.add ⟨B1, 0, none⟩ 1) (.int .i64 x43) fun w47 => stW w47 (.add ⟨B1, 0, none⟩ 2) (.int .i64 x44) fun w48 => stW w48 (.add ⟨B1, 0, none⟩ 3) (.int .i64 x45) fun w49 => ldI w49 ⟨B1, 0, none⟩ .i64 fun x50 => ldI w49 (.add ⟨B1, 0, none⟩ 1) .i64 fun x51 => ldI w49 (.add ⟨B1, 0, none⟩ 2) .i64 fun x52 => ldI w49 (.add ⟨B1, 0, none⟩ 3) .i64 fun x53 => Q (.returned (.agg #[.int .i64 x50, .int .i64 x51, .int .i64 x52, .int .i64 x53])) w49)
def D : Nat → Option DH := dtab [(5, .simple [.fst 0, .fst 1, .fst 2, .fst 3, .fst 4, .fst 5, .fst 6, .fst 7] [.eff 8, .fst 9])]
def l0LO : LO := ⟨[], [], [(0, [2, 3])], []⟩
def l0Tk (k : Nat) : Spec := fun Q σ w => gSlice (σ 0) fun At0 nt0 ct0 => gAd (σ 3) fun at3 => gInt .i64 (σ 4) fun xt4 => l0 k At0 nt0 ct0 at3 xt4 w (fun w => ∀ d : Fr, Q (.exit 0) (ov d [(2, σ 2), (3, .pointer (some at3))]) w)
def l0T : Spec := fun Q σ w => ∃ k, l0Tk k Q σ w
def l0tb : List (List Nat × Spec) := []
noncomputable def l0b : Code := (subC [0, 0, 1, 0, 1, 1] body).getD .skip
theorem l0_eq (k : Nat) (At0 : Option Addr) (nt0 ct0 : Nat) (at3 : Addr) (xt4 : Int) (Q : PQ) (σ : Fr) (w : World) : l0 (k + 1) At0 nt0 ct0 at3 xt4 w (fun w => ∀ d : Fr, Q (.exit 0) (ov d [(2, σ 2), (3, .pointer (some at3))]) w) = codeW Try.prog hT 27 D (tab l0tb) [0, 0, 1, 0, 1, 1] l0b (thenQ (l0Tk k Q) (widen l0LO Q)) (ov σ [(0, .slice At0 nt0 ct0), (3, .pointer (some at3)), (4, .int .i64 xt4)]) w := by kernel_rfl
theorem l0_snd : ∀ c, subC [0, 1, 0, 1, 1] body = some c → Snd Try.prog 27 c l0T := by
 refine loop_of (hT := hT) (D := D) (l := l0tb) (b := l0b) (lo := l0LO) (by kernel_rfl) (by
  intro x hx
  simp only [l0tb, List.not_mem_nil] at hx
  ) (by kernel_rfl) (by kernel_rfl) ?_ ?_
 ·intro Q σ w h
  unfold l0Tk at h
  obtain ⟨_, _, _, _, h⟩ := gSlice_elim h
  obtain ⟨_, _, h⟩ := gAd_elim h
  obtain ⟨_, _, h⟩ := gInt_elim h
  exact h
 ·intro k Q σ w h
  unfold l0Tk at h
  obtain ⟨At0, nt0, ct0, h0, h⟩ := gSlice_elim h
  obtain ⟨at3, h3, h⟩ := gAd_elim h
  obtain ⟨xt4, h4, h⟩ := gInt_elim h
  rw [l0_eq (σ := σ)] at h
  have e : (ov σ [(0, .slice At0 nt0 ct0), (3, .pointer (some at3)), (4, .int .i64 xt4)]) = σ := ov_self (by simp [h0, h3, h4])
  rw [e] at h
  exact h
def tb : List (List Nat × Spec) := [([0, 1, 0, 1, 1], l0T)]
variable (Aa0 : Option Addr) (na0 ca0 : Nat) (w : World) (Q : Ending → World → Prop)
theorem wp_eq : wp Aa0 na0 ca0 w Q = codeW Try.prog hT 27 D (tab tb) [] body (topQ Try.prog hT 27 [.cell 2 33] Q) (argsF [.slice Aa0 na0 ca0]) w := by kernel_rfl
theorem ok (h : wp Aa0 na0 ca0 w Q) : Calls Try.prog 48 #[.slice Aa0 na0 ca0] w Q := by
 rw [wp_eq] at h
 refine calls_of_codeW (c := body) (rs := [.cell 2 33]) Try.func48 ?_ ?_ ?_ ?_ ?_ (tab_snd (by
  intro x hx
  simp only [tb, List.mem_cons, List.not_mem_nil, or_false] at hx
  subst hx
  exact l0_snd)) ?_ h <;> kernel_rfl
end f_ref06_Most
namespace f_ref06_Sum
noncomputable def body : Code := (Try.f49.body).getD .skip
def l0 : Nat → Option Addr → Nat → Nat → Int → Int → World → (Int → World → Prop) → Prop | 0, _, _, _, _, _, _, _ => False | k + 1, At0, nt0, ct0, xt3, xt4, w, K0 => sel (decide (xt4 < (nt0 : Int))) (optB At0 fun a1 => req (decide (0 ≤ xt4 ∧ xt4 < (nt0 : Int))) <| ldI w ((a1.add (xt4.toNat * 4)).add 3) .i64 fun x2 => l0 k At0 nt0 ct0 (IntKind.i64.wrap (xt3 + x2)) (IntKind.i64.wrap (xt4 + 1)) w K0) (K0 xt3 w)
def wp (Aa0 : Option Addr) (na0 ca0 : Nat) (w : World) (Q : Ending → World → Prop) : Prop := ∃ k5, l0 k5 Aa0 na0 ca0 0 0 w (fun x3 w4 => ∀ _ : Fr, Q (.returned (.int .i64 x3)) w4)
def D : Nat → Option DH := dtab []
def l0LO : LO := ⟨[], [], [(0, [3])], []⟩
def l0Tk (k : Nat) : Spec := fun Q σ w => gSlice (σ 0) fun At0 nt0 ct0 => gInt .i64 (σ 3) fun xt3 => gInt .i64 (σ 4) fun xt4 => l0 k At0 nt0 ct0 xt3 xt4 w (fun xq3 w => ∀ d : Fr, Q (.exit 0) (ov d [(3, .int .i64 xq3)]) w)
def l0T : Spec := fun Q σ w => ∃ k, l0Tk k Q σ w
def l0tb : List (List Nat × Spec) := []
noncomputable def l0b : Code := (subC [0, 0, 1, 0, 1, 1] body).getD .skip
theorem l0_eq (k : Nat) (At0 : Option Addr) (nt0 ct0 : Nat) (xt3 xt4 : Int) (Q : PQ) (σ : Fr) (w : World) : l0 (k + 1) At0 nt0 ct0 xt3 xt4 w (fun xq3 w => ∀ d : Fr, Q (.exit 0) (ov d [(3, .int .i64 xq3)]) w) = codeW Try.prog hT 19 D (tab l0tb) [0, 0, 1, 0, 1, 1] l0b (thenQ (l0Tk k Q) (widen l0LO Q)) (ov σ [(0, .slice At0 nt0 ct0), (3, .int .i64 xt3), (4, .int .i64 xt4)]) w := by kernel_rfl
theorem l0_snd : ∀ c, subC [0, 1, 0, 1, 1] body = some c → Snd Try.prog 19 c l0T := by
 refine loop_of (hT := hT) (D := D) (l := l0tb) (b := l0b) (lo := l0LO) (by kernel_rfl) (by
  intro x hx
  simp only [l0tb, List.not_mem_nil] at hx
  ) (by kernel_rfl) (by kernel_rfl) ?_ ?_
 ·intro Q σ w h
  unfold l0Tk at h
  obtain ⟨_, _, _, _, h⟩ := gSlice_elim h
  obtain ⟨_, _, h⟩ := gInt_elim h
  obtain ⟨_, _, h⟩ := gInt_elim h
  exact h
 ·intro k Q σ w h
  unfold l0Tk at h
  obtain ⟨At0, nt0, ct0, h0, h⟩ := gSlice_elim h
  obtain ⟨xt3, h3, h⟩ := gInt_elim h
  obtain ⟨xt4, h4, h⟩ := gInt_elim h
  rw [l0_eq (σ := σ)] at h
  have e : (ov σ [(0, .slice At0 nt0 ct0), (3, .int .i64 xt3), (4, .int .i64 xt4)]) = σ := ov_self (by simp [h0, h3, h4])
  rw [e] at h
  exact h
def tb : List (List Nat × Spec) := [([0, 1, 0, 1, 1], l0T)]
variable (Aa0 : Option Addr) (na0 ca0 : Nat) (w : World) (Q : Ending → World → Prop)
theorem wp_eq : wp Aa0 na0 ca0 w Q = codeW Try.prog hT 19 D (tab tb) [] body (topQ Try.prog hT 19 [.tmp 2] Q) (argsF [.slice Aa0 na0 ca0]) w := by kernel_rfl
theorem ok (h : wp Aa0 na0 ca0 w Q) : Calls Try.prog 49 #[.slice Aa0 na0 ca0] w Q := by
 rw [wp_eq] at h
 refine calls_of_codeW (c := body) (rs := [.tmp 2]) Try.func49 ?_ ?_ ?_ ?_ ?_ (tab_snd (by
  intro x hx
  simp only [tb, List.mem_cons, List.not_mem_nil, or_false] at hx
  subst hx
  exact l0_snd)) ?_ h <;> kernel_rfl
end f_ref06_Sum
namespace f_ref06_Sets
noncomputable def body : Code := (Try.f50.body).getD .skip
def l0 : Nat → Option Addr → Nat → Nat → Option Addr → Nat → Nat → Int → World → ((Option Addr) → Nat → Nat → World → Prop) → Prop | 0, _, _, _, _, _, _, _, _, _ => False | k + 1, At0, nt0, ct0, At5, nt5, ct5, xt6, w, K0 => sel (decide (xt6 < (nt0 : Int))) (alW w (.cells #[.int .i64 xt6] 3) fun B3 w4 => Runs Try.prog (Builtin.append_ #[22, 22] 22 #[.slice At5 nt5 ct5, .slice (some ⟨B3, 0, none⟩) 1 1]) w4 fun v6 w5 => ∃ A7 n7 c7, v6 = (.slice A7 n7 c7) ∧ (l0 k At0 nt0 ct0 A7 n7 c7 (IntKind.i64.wrap (xt6 + 1)) w5 K0)) (K0 At5 nt5 ct5 w)
def l3 : Nat → Option Addr → Nat → Nat → Int → Int → Int → World → (World → Prop) → Prop | 0, _, _, _, _, _, _, _, _ => False | k + 1, At5, nt5, ct5, xt8, xt9, xt11, w, K4 => sel (decide (xt11 < (nt5 : Int))) (sel (xt8 != xt9) (optB At5 fun a26 => req (decide (0 ≤ xt11 ∧ xt11 < (nt5 : Int))) <| ldI w (a26.add (xt11.toNat * 1)) .i64 fun x27 => sel (x27 == xt9) (optB At5 fun a28 => req (decide (0 ≤ xt11 ∧ xt11 < (nt5 : Int))) <| stW w (a28.add (xt11.toNat * 1)) (.int .i64 xt8) fun w29 => l3 k At5 nt5 ct5 xt8 xt9 (IntKind.i64.wrap (xt11 + 1)) w29 K4) (l3 k At5 nt5 ct5 xt8 xt9 (IntKind.i64.wrap (xt11 + 1)) w K4)) (K4 w)) (K4 w)
def j2 (At5 : Option Addr) (nt5 ct5 : Nat) (xt8 xt9 : Int) (w : World) (Kn : World → Prop) : Prop := ∃ k31, l3 k31 At5 nt5 ct5 xt8 xt9 0 w (fun w30 => ∀ _ : Fr, Kn w30)
def l1 : Nat → Option Addr → Nat → Nat → Option Addr → Nat → Nat → Option Addr → Nat → Nat → Int → World → (World → Prop) → Prop | 0, _, _, _, _, _, _, _, _, _, _, _, _ => False | k + 1, At0, nt0, ct0, At1, nt1, ct1, At5, nt5, ct5, xt7, w, K2 => sel (decide (xt7 < (nt1 : Int))) (drW w fun w10 => ∃ S11 : World → Prop, S11 w10 ∧ (optB At1 fun a12 => req (decide (0 ≤ xt7 ∧ xt7 < (nt1 : Int))) <| hdI S11 ((a12.add (xt7.toNat * 4)).add 1) .i64 fun x13 => optB At1 fun a14 => req (decide (0 ≤ xt7 ∧ xt7 < (nt1 : Int))) <| hdI S11 ((a14.add (xt7.toNat * 4)).add 2) .i64 fun x15 => Calls Try.prog 72 #[.slice At0 nt0 ct0, .int .i64 x13] w10 fun e16 w17 => ∃ x18, e16 = .returned (.int .i64 x18) ∧ (S11 w17 ∧ (optB At5 fun a19 => req (decide (0 ≤ x18 ∧ x18 < (nt5 : Int))) <| hdI S11 (a19.add (x18.toNat * 1)) .i64 fun x20 => Calls Try.prog 72 #[.slice At0 nt0 ct0, .int .i64 x15] w17 fun e21 w22 => ∃ x23, e21 = .returned (.int .i64 x23) ∧ (S11 w22 ∧ (optB At5 fun a24 => req (decide (0 ≤ x23 ∧ x23 < (nt5 : Int))) <| hdI S11 (a24.add (x23.toNat * 1)) .i64 fun x25 => sel (decide (x20 > x25)) (j2 At5 nt5 ct5 x25 x20 w22 (fun w32 => ∀ _ : Fr, l1 k At0 nt0 ct0 At1 nt1 ct1 At5 nt5 ct5 (IntKind.i64.wrap (xt7 + 1)) w32 K2)) (j2 At5 nt5 ct5 x20 x25 w22 (fun w33 => ∀ _ : Fr, l1 k At0 nt0 ct0 At1 nt1 ct1 At5 nt5 ct5 (IntKind.i64.wrap (xt7 + 1)) w33 K2)))))))) (K2 w)
def wp (Aa0 : Option Addr) (na0 ca0 : Nat) (Aa1 : Option Addr) (na1 ca1 : Nat) (w : World) (Q : Ending → World → Prop) : Prop := alW w (.cells #[] 3) fun B1 w2 => ∃ k36, l0 k36 Aa0 na0 ca0 (some ⟨B1, 0, none⟩) 0 0 0 w2 (fun A8 n8 c8 w9 => ∀ _ : Fr, ∃ k35, l1 k35 Aa0 na0 ca0 Aa1 na1 ca1 A8 n8 c8 0 w9 (fun w34 => ∀ _ : Fr, Q (.returned (.slice A8 n8 c8)) w34))
def D : Nat → Option DH := dtab [(9, .held [.fst 0, .fst 1, .fst 2, .fst 3, .fst 4, .fst 5, .fst 6, .fst 10, .fst 11, .fst 12, .fst 13, .fst 14, .fst 15, .fst 16, .eff 7, .fst 8, .fst 9, .eff 17, .fst 18, .fst 19, .fst 20] [.fst 21])]
def l0LO : LO := ⟨[], [], [(0, [0, 1, 5])], []⟩
def l0Tk (k : Nat) : Spec := fun Q σ w => gSlice (σ 0) fun At0 nt0 ct0 => gSlice (σ 5) fun At5 nt5 ct5 => gInt .i64 (σ 6) fun xt6 => l0 k At0 nt0 ct0 At5 nt5 ct5 xt6 w (fun Aq5 nq5 cq5 w => ∀ d : Fr, Q (.exit 0) (ov d [(0, .slice At0 nt0 ct0), (1, σ 1), (5, .slice Aq5 nq5 cq5)]) w)
def l0T : Spec := fun Q σ w => ∃ k, l0Tk k Q σ w
def l0tb : List (List Nat × Spec) := []
noncomputable def l0b : Code := (subC [0, 0, 1, 0, 1, 1] body).getD .skip
theorem l0_eq (k : Nat) (At0 : Option Addr) (nt0 ct0 : Nat) (At5 : Option Addr) (nt5 ct5 : Nat) (xt6 : Int) (Q : PQ) (σ : Fr) (w : World) : l0 (k + 1) At0 nt0 ct0 At5 nt5 ct5 xt6 w (fun Aq5 nq5 cq5 w => ∀ d : Fr, Q (.exit 0) (ov d [(0, .slice At0 nt0 ct0), (1, σ 1), (5, .slice Aq5 nq5 cq5)]) w) = codeW Try.prog hT 77 D (tab l0tb) [0, 0, 1, 0, 1, 1] l0b (thenQ (l0Tk k Q) (widen l0LO Q)) (ov σ [(0, .slice At0 nt0 ct0), (5, .slice At5 nt5 ct5), (6, .int .i64 xt6)]) w := by kernel_rfl
theorem l0_snd : ∀ c, subC [0, 1, 0, 1, 1] body = some c → Snd Try.prog 77 c l0T := by
 refine loop_of (hT := hT) (D := D) (l := l0tb) (b := l0b) (lo := l0LO) (by kernel_rfl) (by
  intro x hx
  simp only [l0tb, List.not_mem_nil] at hx
  ) (by kernel_rfl) (by kernel_rfl) ?_ ?_
 ·intro Q σ w h
  unfold l0Tk at h
  obtain ⟨_, _, _, _, h⟩ := gSlice_elim h
  obtain ⟨_, _, _, _, h⟩ := gSlice_elim h
  obtain ⟨_, _, h⟩ := gInt_elim h
  exact h
 ·intro k Q σ w h
  unfold l0Tk at h
  obtain ⟨At0, nt0, ct0, h0, h⟩ := gSlice_elim h
  obtain ⟨At5, nt5, ct5, h5, h⟩ := gSlice_elim h
  obtain ⟨xt6, h6, h⟩ := gInt_elim h
  rw [l0_eq (σ := σ)] at h
  have e : (ov σ [(0, .slice At0 nt0 ct0), (5, .slice At5 nt5 ct5), (6, .int .i64 xt6)]) = σ := ov_self (by simp [h0, h5, h6])
  rw [e] at h
  exact h
def l3LO : LO := ⟨[], [], [(4, [0, 1, 5, 7])], []⟩
def l3Tk (k : Nat) : Spec := fun Q σ w => gSlice (σ 5) fun At5 nt5 ct5 => gInt .i64 (σ 8) fun xt8 => gInt .i64 (σ 9) fun xt9 => gInt .i64 (σ 11) fun xt11 => l3 k At5 nt5 ct5 xt8 xt9 xt11 w (fun w => ∀ d : Fr, Q (.exit 4) (ov d [(0, σ 0), (1, σ 1), (5, .slice At5 nt5 ct5), (7, σ 7)]) w)
def l3T : Spec := fun Q σ w => ∃ k, l3Tk k Q σ w
def l3tb : List (List Nat × Spec) := []
noncomputable def l3b : Code := (subC [0, 0, 1, 1, 1, 0, 0, 1, 0, 0, 1, 0, 1, 1, 1] body).getD .skip
theorem l3_eq (k : Nat) (At5 : Option Addr) (nt5 ct5 : Nat) (xt8 xt9 xt11 : Int) (Q : PQ) (σ : Fr) (w : World) : l3 (k + 1) At5 nt5 ct5 xt8 xt9 xt11 w (fun w => ∀ d : Fr, Q (.exit 4) (ov d [(0, σ 0), (1, σ 1), (5, .slice At5 nt5 ct5), (7, σ 7)]) w) = codeW Try.prog hT 77 D (tab l3tb) [0, 0, 1, 1, 1, 0, 0, 1, 0, 0, 1, 0, 1, 1, 1] l3b (thenQ (l3Tk k Q) (widen l3LO Q)) (ov σ [(5, .slice At5 nt5 ct5), (8, .int .i64 xt8), (9, .int .i64 xt9), (11, .int .i64 xt11)]) w := by kernel_rfl
theorem l3_snd : ∀ c, subC [0, 1, 1, 1, 0, 0, 1, 0, 0, 1, 0, 1, 1, 1] body = some c → Snd Try.prog 77 c l3T := by
 refine loop_of (hT := hT) (D := D) (l := l3tb) (b := l3b) (lo := l3LO) (by kernel_rfl) (by
  intro x hx
  simp only [l3tb, List.not_mem_nil] at hx
  ) (by kernel_rfl) (by kernel_rfl) ?_ ?_
 ·intro Q σ w h
  unfold l3Tk at h
  obtain ⟨_, _, _, _, h⟩ := gSlice_elim h
  obtain ⟨_, _, h⟩ := gInt_elim h
  obtain ⟨_, _, h⟩ := gInt_elim h
  obtain ⟨_, _, h⟩ := gInt_elim h
  exact h
 ·intro k Q σ w h
  unfold l3Tk at h
  obtain ⟨At5, nt5, ct5, h5, h⟩ := gSlice_elim h
  obtain ⟨xt8, h8, h⟩ := gInt_elim h
  obtain ⟨xt9, h9, h⟩ := gInt_elim h
  obtain ⟨xt11, h11, h⟩ := gInt_elim h
  rw [l3_eq (σ := σ)] at h
  have e : (ov σ [(5, .slice At5 nt5 ct5), (8, .int .i64 xt8), (9, .int .i64 xt9), (11, .int .i64 xt11)]) = σ := ov_self (by simp [h5, h8, h9, h11])
  rw [e] at h
  exact h
def j2LO : LO := ⟨[0, 1, 5, 7], [], [], []⟩
def j2T : Spec := fun Q σ w => gSlice (σ 5) fun At5 nt5 ct5 => gInt .i64 (σ 8) fun xt8 => gInt .i64 (σ 9) fun xt9 => j2 At5 nt5 ct5 xt8 xt9 w (fun w => ∀ d : Fr, Q .normal (ov d [(0, σ 0), (1, σ 1), (5, .slice At5 nt5 ct5), (7, σ 7)]) w)
def j2tb : List (List Nat × Spec) := [([0, 1, 1, 1, 0, 0, 1, 0, 0, 1, 0, 1, 1, 1], l3T)]
noncomputable def j2b : Code := (subC [1, 1, 0, 0, 1, 0, 0, 1, 0, 1, 1, 1] body).getD .skip
theorem j2_eq (At5 : Option Addr) (nt5 ct5 : Nat) (xt8 xt9 : Int) (Q : PQ) (σ : Fr) (w : World) : j2 At5 nt5 ct5 xt8 xt9 w (fun w => ∀ d : Fr, Q .normal (ov d [(0, σ 0), (1, σ 1), (5, .slice At5 nt5 ct5), (7, σ 7)]) w) = codeW Try.prog hT 77 D (tab j2tb) [1, 1, 0, 0, 1, 0, 0, 1, 0, 1, 1, 1] j2b (widen j2LO Q) (ov σ [(5, .slice At5 nt5 ct5), (8, .int .i64 xt8), (9, .int .i64 xt9)]) w := by kernel_rfl
theorem j2_snd : ∀ c, subC [1, 1, 0, 0, 1, 0, 0, 1, 0, 1, 1, 1] body = some c → Snd Try.prog 77 c j2T := by
 refine cut_of (hT := hT) (D := D) (l := j2tb) (b := j2b) (lo := j2LO) (by kernel_rfl) (by
  intro x hx
  simp only [j2tb, List.mem_cons, List.not_mem_nil, or_false] at hx
  subst hx
  exact l3_snd) (by kernel_rfl) (by kernel_rfl) ?_
 intro Q σ w h
 unfold j2T at h
 obtain ⟨At5, nt5, ct5, h5, h⟩ := gSlice_elim h
 obtain ⟨xt8, h8, h⟩ := gInt_elim h
 obtain ⟨xt9, h9, h⟩ := gInt_elim h
 rw [j2_eq (σ := σ)] at h
 have e : (ov σ [(5, .slice At5 nt5 ct5), (8, .int .i64 xt8), (9, .int .i64 xt9)]) = σ := ov_self (by simp [h5, h8, h9])
 rw [e] at h
 exact h
def l1LO : LO := ⟨[], [], [(2, [5])], []⟩
def l1Tk (k : Nat) : Spec := fun Q σ w => gSlice (σ 0) fun At0 nt0 ct0 => gSlice (σ 1) fun At1 nt1 ct1 => gSlice (σ 5) fun At5 nt5 ct5 => gInt .i64 (σ 7) fun xt7 => l1 k At0 nt0 ct0 At1 nt1 ct1 At5 nt5 ct5 xt7 w (fun w => ∀ d : Fr, Q (.exit 2) (ov d [(5, .slice At5 nt5 ct5)]) w)
def l1T : Spec := fun Q σ w => ∃ k, l1Tk k Q σ w
def l1tb : List (List Nat × Spec) := [([0, 1, 1, 1, 0, 0, 1, 0, 0, 1, 0, 1, 1, 1], l3T), ([1, 1, 0, 0, 1, 0, 0, 1, 0, 1, 1, 1], j2T)]
noncomputable def l1b : Code := (subC [0, 0, 1, 0, 1, 1, 1] body).getD .skip
theorem l1_eq (k : Nat) (At0 : Option Addr) (nt0 ct0 : Nat) (At1 : Option Addr) (nt1 ct1 : Nat) (At5 : Option Addr) (nt5 ct5 : Nat) (xt7 : Int) (Q : PQ) (σ : Fr) (w : World) : l1 (k + 1) At0 nt0 ct0 At1 nt1 ct1 At5 nt5 ct5 xt7 w (fun w => ∀ d : Fr, Q (.exit 2) (ov d [(5, .slice At5 nt5 ct5)]) w) = codeW Try.prog hT 77 D (tab l1tb) [0, 0, 1, 0, 1, 1, 1] l1b (thenQ (l1Tk k Q) (widen l1LO Q)) (ov σ [(0, .slice At0 nt0 ct0), (1, .slice At1 nt1 ct1), (5, .slice At5 nt5 ct5), (7, .int .i64 xt7)]) w := by kernel_rfl
theorem l1_snd : ∀ c, subC [0, 1, 0, 1, 1, 1] body = some c → Snd Try.prog 77 c l1T := by
 refine loop_of (hT := hT) (D := D) (l := l1tb) (b := l1b) (lo := l1LO) (by kernel_rfl) (by
  intro x hx
  simp only [l1tb, List.mem_cons, List.not_mem_nil, or_false] at hx
  rcases hx with rfl | rfl
  ·exact l3_snd
  ·exact j2_snd) (by kernel_rfl) (by kernel_rfl) ?_ ?_
 ·intro Q σ w h
  unfold l1Tk at h
  obtain ⟨_, _, _, _, h⟩ := gSlice_elim h
  obtain ⟨_, _, _, _, h⟩ := gSlice_elim h
  obtain ⟨_, _, _, _, h⟩ := gSlice_elim h
  obtain ⟨_, _, h⟩ := gInt_elim h
  exact h
 ·intro k Q σ w h
  unfold l1Tk at h
  obtain ⟨At0, nt0, ct0, h0, h⟩ := gSlice_elim h
  obtain ⟨At1, nt1, ct1, h1, h⟩ := gSlice_elim h
  obtain ⟨At5, nt5, ct5, h5, h⟩ := gSlice_elim h
  obtain ⟨xt7, h7, h⟩ := gInt_elim h
  rw [l1_eq (σ := σ)] at h
  have e : (ov σ [(0, .slice At0 nt0 ct0), (1, .slice At1 nt1 ct1), (5, .slice At5 nt5 ct5), (7, .int .i64 xt7)]) = σ := ov_self (by simp [h0, h1, h5, h7])
  rw [e] at h
  exact h
def tb : List (List Nat × Spec) := [([0, 1, 0, 1, 1], l0T), ([0, 1, 1, 1, 0, 0, 1, 0, 0, 1, 0, 1, 1, 1], l3T), ([1, 1, 0, 0, 1, 0, 0, 1, 0, 1, 1, 1], j2T), ([0, 1, 0, 1, 1, 1], l1T)]
variable (Aa0 : Option Addr) (na0 ca0 : Nat) (Aa1 : Option Addr) (na1 ca1 : Nat) (w : World) (Q : Ending → World → Prop)
theorem wp_eq : wp Aa0 na0 ca0 Aa1 na1 ca1 w Q = codeW Try.prog hT 77 D (tab tb) [] body (topQ Try.prog hT 77 [.tmp 4] Q) (argsF [.slice Aa0 na0 ca0, .slice Aa1 na1 ca1]) w := by kernel_rfl
theorem ok (h : wp Aa0 na0 ca0 Aa1 na1 ca1 w Q) : Calls Try.prog 50 #[.slice Aa0 na0 ca0, .slice Aa1 na1 ca1] w Q := by
 rw [wp_eq] at h
 refine calls_of_codeW (c := body) (rs := [.tmp 4]) Try.func50 ?_ ?_ ?_ ?_ ?_ (tab_snd (by
  intro x hx
  simp only [tb, List.mem_cons, List.not_mem_nil, or_false] at hx
  rcases hx with rfl | rfl | rfl | rfl
  ·exact l0_snd
  ·exact l3_snd
  ·exact j2_snd
  ·exact l1_snd)) ?_ h <;> kernel_rfl
end f_ref06_Sets
namespace f_ref16_Joined
noncomputable def body : Code := (Try.f68.body).getD .skip
def wp (Aa0_0 : Option Addr) (na0_0 ca0_0 : Nat) (Aa0_1 : Option Addr) (na0_1 ca0_1 : Nat) (Aa0_2 : Option Addr) (na0_2 ca0_2 : Nat) (Aa0_3 : Option Addr) (na0_3 ca0_3 : Nat) (xa1 xa2 : Int) (w : World) (Q : Ending → World → Prop) : Prop := alW w (.cells #[.slice Aa0_0 na0_0 ca0_0, .slice Aa0_1 na0_1 ca0_1, .slice Aa0_2 na0_2 ca0_2, .slice Aa0_3 na0_3 ca0_3] 31) fun B1 w2 => ldS w2 ⟨B1, 0, none⟩ fun A3 n3 c3 => ldS w2 (.add ⟨B1, 0, none⟩ 1) fun A4 n4 c4 => ldS w2 (.add ⟨B1, 0, none⟩ 2) fun A5 n5 c5 => ldS w2 (.add ⟨B1, 0, none⟩ 3) fun A6 n6 c6 => Calls Try.prog 28 #[.agg #[.slice A3 n3 c3, .slice A4 n4 c4, .slice A5 n5 c5, .slice A6 n6 c6], .int .i64 xa1] w2 fun e7 w8 => ∃ A9 n9 c9, e7 = .returned (.slice A9 n9 c9) ∧ (Calls Try.prog 27 #[.slice A9 n9 c9, .int .i64 xa2] w8 fun e10 w11 => ∃ b12, e10 = .returned (.bool b12) ∧ (Q (.returned (.bool b12)) w11))
def D : Nat → Option DH := dtab []
def tb : List (List Nat × Spec) := []
variable (Aa0_0 : Option Addr) (na0_0 ca0_0 : Nat) (Aa0_1 : Option Addr) (na0_1 ca0_1 : Nat) (Aa0_2 : Option Addr) (na0_2 ca0_2 : Nat) (Aa0_3 : Option Addr) (na0_3 ca0_3 : Nat) (xa1 xa2 : Int) (w : World) (Q : Ending → World → Prop)
theorem wp_eq : wp Aa0_0 na0_0 ca0_0 Aa0_1 na0_1 ca0_1 Aa0_2 na0_2 ca0_2 Aa0_3 na0_3 ca0_3 xa1 xa2 w Q = codeW Try.prog hT 12 D (tab tb) [] body (topQ Try.prog hT 12 [.tmp 6] Q) (argsF [.agg #[.slice Aa0_0 na0_0 ca0_0, .slice Aa0_1 na0_1 ca0_1, .slice Aa0_2 na0_2 ca0_2, .slice Aa0_3 na0_3 ca0_3], .int .i64 xa1, .int .i64 xa2]) w := by kernel_rfl
theorem ok (h : wp Aa0_0 na0_0 ca0_0 Aa0_1 na0_1 ca0_1 Aa0_2 na0_2 ca0_2 Aa0_3 na0_3 ca0_3 xa1 xa2 w Q) : Calls Try.prog 68 #[.agg #[.slice Aa0_0 na0_0 ca0_0, .slice Aa0_1 na0_1 ca0_1, .slice Aa0_2 na0_2 ca0_2, .slice Aa0_3 na0_3 ca0_3], .int .i64 xa1, .int .i64 xa2] w Q := by
 rw [wp_eq] at h
 refine calls_of_codeW (c := body) (rs := [.tmp 6]) Try.func68 ?_ ?_ ?_ ?_ ?_ (tab_snd (by
  intro x hx
  simp only [tb, List.not_mem_nil] at hx
  )) ?_ h <;> kernel_rfl
end f_ref16_Joined
namespace f_ref05_Edge
noncomputable def body : Code := (Try.f69.body).getD .skip
def l0 : Nat → Int → Addr → Addr → Int → World → (World → Prop) → (Bool → World → Prop) → Prop | 0, _, _, _, _, _, _, _ => False | k + 1, xt1, at2, at4, xt6, w, K0, Kr => ldS w (at2.add 1) fun A5 n5 c5 => sel (decide (xt6 < (n5 : Int))) (ldS w (at2.add 1) fun A6 n6 c6 => optB A6 fun a7 => req (decide (0 ≤ xt6 ∧ xt6 < (n6 : Int))) <| ldI w (a7.add (xt6.toNat * 4)) .i64 fun x8 => sel (x8 == xt1) (ldS w (at2.add 1) fun A9 n9 c9 => optB A9 fun a10 => req (decide (0 ≤ xt6 ∧ xt6 < (n9 : Int))) <| ldI w (a10.add (xt6.toNat * 4)) .i64 fun x11 => ldI w ((a10.add (xt6.toNat * 4)).add 1) .i64 fun x12 => ldI w ((a10.add (xt6.toNat * 4)).add 2) .i64 fun x13 => ldI w ((a10.add (xt6.toNat * 4)).add 3) .i64 fun x14 => stW w at4 (.int .i64 x11) fun w15 => stW w15 (at4.add 1) (.int .i64 x12) fun w16 => stW w16 (at4.add 2) (.int .i64 x13) fun w17 => stW w17 (at4.add 3) (.int .i64 x14) fun w18 => Kr true w18) (l0 k xt1 at2 at4 (IntKind.i64.wrap (xt6 + 1)) w K0 Kr)) (K0 w)
def wp (Aa0_0 : Option Addr) (na0_0 ca0_0 : Nat) (Aa0_1 : Option Addr) (na0_1 ca0_1 : Nat) (Aa0_2 : Option Addr) (na0_2 ca0_2 : Nat) (xa1 : Int) (w : World) (Q : Ending → World → Prop) : Prop := alW w (.cells #[.slice Aa0_0 na0_0 ca0_0, .slice Aa0_1 na0_1 ca0_1, .slice Aa0_2 na0_2 ca0_2] 125) fun B1 w2 => alW w2 (.cells #[.int .i64 0, .int .i64 0, .int .i64 0, .int .i64 0] 33) fun B3 w4 => ∃ k34, l0 k34 xa1 ⟨B1, 0, none⟩ ⟨B3, 0, none⟩ 0 w4 (fun w19 => ∀ _ : Fr, stW w19 ⟨B3, 0, none⟩ (.int .i64 0) fun w20 => stW w20 (.add ⟨B3, 0, none⟩ 1) (.int .i64 0) fun w21 => stW w21 (.add ⟨B3, 0, none⟩ 2) (.int .i64 0) fun w22 => stW w22 (.add ⟨B3, 0, none⟩ 3) (.int .i64 0) fun w23 => ldI w23 ⟨B3, 0, none⟩ .i64 fun x24 => ldI w23 (.add ⟨B3, 0, none⟩ 1) .i64 fun x25 => ldI w23 (.add ⟨B3, 0, none⟩ 2) .i64 fun x26 => ldI w23 (.add ⟨B3, 0, none⟩ 3) .i64 fun x27 => Q (.returned (.tuple #[.agg #[.int .i64 x24, .int .i64 x25, .int .i64 x26, .int .i64 x27], .bool false])) w23) (fun b28 w29 => ∀ _ : Fr, ldI w29 ⟨B3, 0, none⟩ .i64 fun x30 => ldI w29 (.add ⟨B3, 0, none⟩ 1) .i64 fun x31 => ldI w29 (.add ⟨B3, 0, none⟩ 2) .i64 fun x32 => ldI w29 (.add ⟨B3, 0, none⟩ 3) .i64 fun x33 => Q (.returned (.tuple #[.agg #[.int .i64 x30, .int .i64 x31, .int .i64 x32, .int .i64 x33], .bool b28])) w29)
def D : Nat → Option DH := dtab []
def l0LO : LO := ⟨[], [4, 5], [(0, [4])], []⟩
def l0Tk (k : Nat) : Spec := fun Q σ w => gInt .i64 (σ 1) fun xt1 => gAd (σ 2) fun at2 => gAd (σ 4) fun at4 => gInt .i64 (σ 6) fun xt6 => l0 k xt1 at2 at4 xt6 w (fun w => ∀ d : Fr, Q (.exit 0) (ov d [(4, .pointer (some at4))]) w) (fun bq5 w => ∀ d : Fr, Q .ret (ov d [(4, .pointer (some at4)), (5, .bool bq5)]) w)
def l0T : Spec := fun Q σ w => ∃ k, l0Tk k Q σ w
def l0tb : List (List Nat × Spec) := []
noncomputable def l0b : Code := (subC [0, 0, 1, 0, 1] body).getD .skip
theorem l0_eq (k : Nat) (xt1 : Int) (at2 at4 : Addr) (xt6 : Int) (Q : PQ) (σ : Fr) (w : World) : l0 (k + 1) xt1 at2 at4 xt6 w (fun w => ∀ d : Fr, Q (.exit 0) (ov d [(4, .pointer (some at4))]) w) (fun bq5 w => ∀ d : Fr, Q .ret (ov d [(4, .pointer (some at4)), (5, .bool bq5)]) w) = codeW Try.prog hT 28 D (tab l0tb) [0, 0, 1, 0, 1] l0b (thenQ (l0Tk k Q) (widen l0LO Q)) (ov σ [(1, .int .i64 xt1), (2, .pointer (some at2)), (4, .pointer (some at4)), (6, .int .i64 xt6)]) w := by kernel_rfl
theorem l0_snd : ∀ c, subC [0, 1, 0, 1] body = some c → Snd Try.prog 28 c l0T := by
 refine loop_of (hT := hT) (D := D) (l := l0tb) (b := l0b) (lo := l0LO) (by kernel_rfl) (by
  intro x hx
  simp only [l0tb, List.not_mem_nil] at hx
  ) (by kernel_rfl) (by kernel_rfl) ?_ ?_
 ·intro Q σ w h
  unfold l0Tk at h
  obtain ⟨_, _, h⟩ := gInt_elim h
  obtain ⟨_, _, h⟩ := gAd_elim h
  obtain ⟨_, _, h⟩ := gAd_elim h
  obtain ⟨_, _, h⟩ := gInt_elim h
  exact h
 ·intro k Q σ w h
  unfold l0Tk at h
  obtain ⟨xt1, h1, h⟩ := gInt_elim h
  obtain ⟨at2, h2, h⟩ := gAd_elim h
  obtain ⟨at4, h4, h⟩ := gAd_elim h
  obtain ⟨xt6, h6, h⟩ := gInt_elim h
  rw [l0_eq (σ := σ)] at h
  have e : (ov σ [(1, .int .i64 xt1), (2, .pointer (some at2)), (4, .pointer (some at4)), (6, .int .i64 xt6)]) = σ := ov_self (by simp [h1, h2, h4, h6])
  rw [e] at h
  exact h
def tb : List (List Nat × Spec) := [([0, 1, 0, 1], l0T)]
variable (Aa0_0 : Option Addr) (na0_0 ca0_0 : Nat) (Aa0_1 : Option Addr) (na0_1 ca0_1 : Nat) (Aa0_2 : Option Addr) (na0_2 ca0_2 : Nat) (xa1 : Int) (w : World) (Q : Ending → World → Prop)
theorem wp_eq : wp Aa0_0 na0_0 ca0_0 Aa0_1 na0_1 ca0_1 Aa0_2 na0_2 ca0_2 xa1 w Q = codeW Try.prog hT 28 D (tab tb) [] body (topQ Try.prog hT 28 [.cell 4 33, .tmp 5] Q) (argsF [.agg #[.slice Aa0_0 na0_0 ca0_0, .slice Aa0_1 na0_1 ca0_1, .slice Aa0_2 na0_2 ca0_2], .int .i64 xa1]) w := by kernel_rfl
theorem ok (h : wp Aa0_0 na0_0 ca0_0 Aa0_1 na0_1 ca0_1 Aa0_2 na0_2 ca0_2 xa1 w Q) : Calls Try.prog 69 #[.agg #[.slice Aa0_0 na0_0 ca0_0, .slice Aa0_1 na0_1 ca0_1, .slice Aa0_2 na0_2 ca0_2], .int .i64 xa1] w Q := by
 rw [wp_eq] at h
 refine calls_of_codeW (c := body) (rs := [.cell 4 33, .tmp 5]) Try.func69 ?_ ?_ ?_ ?_ ?_ (tab_snd (by
  intro x hx
  simp only [tb, List.mem_cons, List.not_mem_nil, or_false] at hx
  subst hx
  exact l0_snd)) ?_ h <;> kernel_rfl
end f_ref05_Edge
namespace f_ref06_other
noncomputable def body : Code := (Try.f70.body).getD .skip
def wp (xa0_0 xa0_1 xa0_2 xa0_3 xa1 : Int) (w : World) (Q : Ending → World → Prop) : Prop := alW w (.cells #[.int .i64 xa0_0, .int .i64 xa0_1, .int .i64 xa0_2, .int .i64 xa0_3] 33) fun B1 w2 => ldI w2 (.add ⟨B1, 0, none⟩ 1) .i64 fun x3 => sel (x3 == xa1) (ldI w2 (.add ⟨B1, 0, none⟩ 2) .i64 fun x4 => Q (.returned (.int .i64 x4)) w2) (ldI w2 (.add ⟨B1, 0, none⟩ 1) .i64 fun x5 => Q (.returned (.int .i64 x5)) w2)
def D : Nat → Option DH := dtab []
def tb : List (List Nat × Spec) := []
variable (xa0_0 xa0_1 xa0_2 xa0_3 xa1 : Int) (w : World) (Q : Ending → World → Prop)
theorem wp_eq : wp xa0_0 xa0_1 xa0_2 xa0_3 xa1 w Q = codeW Try.prog hT 13 D (tab tb) [] body (topQ Try.prog hT 13 [.tmp 4] Q) (argsF [.agg #[.int .i64 xa0_0, .int .i64 xa0_1, .int .i64 xa0_2, .int .i64 xa0_3], .int .i64 xa1]) w := by kernel_rfl
theorem ok (h : wp xa0_0 xa0_1 xa0_2 xa0_3 xa1 w Q) : Calls Try.prog 70 #[.agg #[.int .i64 xa0_0, .int .i64 xa0_1, .int .i64 xa0_2, .int .i64 xa0_3], .int .i64 xa1] w Q := by
 rw [wp_eq] at h
 refine calls_of_codeW (c := body) (rs := [.tmp 4]) Try.func70 ?_ ?_ ?_ ?_ ?_ (tab_snd (by
  intro x hx
  simp only [tb, List.not_mem_nil] at hx
  )) ?_ h <;> kernel_rfl
end f_ref06_other
namespace f_ref06_Ahead
noncomputable def body : Code := (Try.f71.body).getD .skip
def wp (xa0_0 xa0_1 xa0_2 xa0_3 xa1_0 xa1_1 xa1_2 xa1_3 : Int) (w : World) (Q : Ending → World → Prop) : Prop := alW w (.cells #[.int .i64 xa0_0, .int .i64 xa0_1, .int .i64 xa0_2, .int .i64 xa0_3] 33) fun B1 w2 => alW w2 (.cells #[.int .i64 xa1_0, .int .i64 xa1_1, .int .i64 xa1_2, .int .i64 xa1_3] 33) fun B3 w4 => ldI w4 (.add ⟨B1, 0, none⟩ 3) .i64 fun x5 => ldI w4 (.add ⟨B3, 0, none⟩ 3) .i64 fun x6 => sel (decide (x5 < x6)) (Q (.returned (.bool true)) w4) (ldI w4 (.add ⟨B1, 0, none⟩ 3) .i64 fun x7 => ldI w4 (.add ⟨B3, 0, none⟩ 3) .i64 fun x8 => sel (x7 == x8) (ldI w4 ⟨B1, 0, none⟩ .i64 fun x9 => ldI w4 ⟨B3, 0, none⟩ .i64 fun x10 => Q (.returned (.bool (decide (x9 < x10)))) w4) (Q (.returned (.bool false)) w4))
def D : Nat → Option DH := dtab []
def tb : List (List Nat × Spec) := []
variable (xa0_0 xa0_1 xa0_2 xa0_3 xa1_0 xa1_1 xa1_2 xa1_3 : Int) (w : World) (Q : Ending → World → Prop)
theorem wp_eq : wp xa0_0 xa0_1 xa0_2 xa0_3 xa1_0 xa1_1 xa1_2 xa1_3 w Q = codeW Try.prog hT 24 D (tab tb) [] body (topQ Try.prog hT 24 [.tmp 4] Q) (argsF [.agg #[.int .i64 xa0_0, .int .i64 xa0_1, .int .i64 xa0_2, .int .i64 xa0_3], .agg #[.int .i64 xa1_0, .int .i64 xa1_1, .int .i64 xa1_2, .int .i64 xa1_3]]) w := by kernel_rfl
theorem ok (h : wp xa0_0 xa0_1 xa0_2 xa0_3 xa1_0 xa1_1 xa1_2 xa1_3 w Q) : Calls Try.prog 71 #[.agg #[.int .i64 xa0_0, .int .i64 xa0_1, .int .i64 xa0_2, .int .i64 xa0_3], .agg #[.int .i64 xa1_0, .int .i64 xa1_1, .int .i64 xa1_2, .int .i64 xa1_3]] w Q := by
 rw [wp_eq] at h
 refine calls_of_codeW (c := body) (rs := [.tmp 4]) Try.func71 ?_ ?_ ?_ ?_ ?_ (tab_snd (by
  intro x hx
  simp only [tb, List.not_mem_nil] at hx
  )) ?_ h <;> kernel_rfl
end f_ref06_Ahead
namespace f_ref06_place
noncomputable def body : Code := (Try.f72.body).getD .skip
def l0 : Nat → Option Addr → Nat → Nat → Int → Int → World → (World → Prop) → (Int → World → Prop) → Prop | 0, _, _, _, _, _, _, _, _ => False | k + 1, At0, nt0, ct0, xt1, xt5, w, K0, Kr => sel (decide (xt5 < (nt0 : Int))) (optB At0 fun a1 => req (decide (0 ≤ xt5 ∧ xt5 < (nt0 : Int))) <| ldI w (a1.add (xt5.toNat * 1)) .i64 fun x2 => sel (x2 == xt1) (Kr xt5 w) (l0 k At0 nt0 ct0 xt1 (IntKind.i64.wrap (xt5 + 1)) w K0 Kr)) (K0 w)
def wp (Aa0 : Option Addr) (na0 ca0 : Nat) (xa1 : Int) (w : World) (Q : Ending → World → Prop) : Prop := ∃ k6, l0 k6 Aa0 na0 ca0 xa1 0 w (fun w3 => ∀ _ : Fr, Q (.returned (.int .i64 (-1 : Int))) w3) (fun x4 w5 => ∀ _ : Fr, Q (.returned (.int .i64 x4)) w5)
def D : Nat → Option DH := dtab []
def l0LO : LO := ⟨[], [4], [(0, [])], []⟩
def l0Tk (k : Nat) : Spec := fun Q σ w => gSlice (σ 0) fun At0 nt0 ct0 => gInt .i64 (σ 1) fun xt1 => gInt .i64 (σ 5) fun xt5 => l0 k At0 nt0 ct0 xt1 xt5 w (fun w => ∀ d : Fr, Q (.exit 0) (ov d []) w) (fun xq4 w => ∀ d : Fr, Q .ret (ov d [(4, .int .i64 xq4)]) w)
def l0T : Spec := fun Q σ w => ∃ k, l0Tk k Q σ w
def l0tb : List (List Nat × Spec) := []
noncomputable def l0b : Code := (subC [0, 0, 1, 0, 1] body).getD .skip
theorem l0_eq (k : Nat) (At0 : Option Addr) (nt0 ct0 : Nat) (xt1 xt5 : Int) (Q : PQ) (σ : Fr) (w : World) : l0 (k + 1) At0 nt0 ct0 xt1 xt5 w (fun w => ∀ d : Fr, Q (.exit 0) (ov d []) w) (fun xq4 w => ∀ d : Fr, Q .ret (ov d [(4, .int .i64 xq4)]) w) = codeW Try.prog hT 19 D (tab l0tb) [0, 0, 1, 0, 1] l0b (thenQ (l0Tk k Q) (widen l0LO Q)) (ov σ [(0, .slice At0 nt0 ct0), (1, .int .i64 xt1), (5, .int .i64 xt5)]) w := by kernel_rfl
theorem l0_snd : ∀ c, subC [0, 1, 0, 1] body = some c → Snd Try.prog 19 c l0T := by
 refine loop_of (hT := hT) (D := D) (l := l0tb) (b := l0b) (lo := l0LO) (by kernel_rfl) (by
  intro x hx
  simp only [l0tb, List.not_mem_nil] at hx
  ) (by kernel_rfl) (by kernel_rfl) ?_ ?_
 ·intro Q σ w h
  unfold l0Tk at h
  obtain ⟨_, _, _, _, h⟩ := gSlice_elim h
  obtain ⟨_, _, h⟩ := gInt_elim h
  obtain ⟨_, _, h⟩ := gInt_elim h
  exact h
 ·intro k Q σ w h
  unfold l0Tk at h
  obtain ⟨At0, nt0, ct0, h0, h⟩ := gSlice_elim h
  obtain ⟨xt1, h1, h⟩ := gInt_elim h
  obtain ⟨xt5, h5, h⟩ := gInt_elim h
  rw [l0_eq (σ := σ)] at h
  have e : (ov σ [(0, .slice At0 nt0 ct0), (1, .int .i64 xt1), (5, .int .i64 xt5)]) = σ := ov_self (by simp [h0, h1, h5])
  rw [e] at h
  exact h
def tb : List (List Nat × Spec) := [([0, 1, 0, 1], l0T)]
variable (Aa0 : Option Addr) (na0 ca0 : Nat) (xa1 : Int) (w : World) (Q : Ending → World → Prop)
theorem wp_eq : wp Aa0 na0 ca0 xa1 w Q = codeW Try.prog hT 19 D (tab tb) [] body (topQ Try.prog hT 19 [.tmp 4] Q) (argsF [.slice Aa0 na0 ca0, .int .i64 xa1]) w := by kernel_rfl
theorem ok (h : wp Aa0 na0 ca0 xa1 w Q) : Calls Try.prog 72 #[.slice Aa0 na0 ca0, .int .i64 xa1] w Q := by
 rw [wp_eq] at h
 refine calls_of_codeW (c := body) (rs := [.tmp 4]) Try.func72 ?_ ?_ ?_ ?_ ?_ (tab_snd (by
  intro x hx
  simp only [tb, List.mem_cons, List.not_mem_nil, or_false] at hx
  subst hx
  exact l0_snd)) ?_ h <;> kernel_rfl
end f_ref06_place
namespace f_law20_alive
noncomputable def body : Code := (Try.f8.body).getD .skip
def l0 : Nat → Option Addr → Int → World → (World → Prop) → (Bool → World → Prop) → Prop | 0, _, _, _, _, _ => False | k + 1, pt1, xt2, w, K0, Kr => sel (decide (xt2 ≤ 4)) (Calls Try.prog 22 #[.pointer pt1, .int .i64 xt2] w fun e6 w7 => ∃ x8, e6 = .returned (.int .i64 x8) ∧ (sel (x8 != 0) (Kr false w7) (l0 k pt1 (IntKind.i64.wrap (xt2 + 1)) w7 K0 Kr))) (K0 w)
def wp (w : World) (Q : Ending → World → Prop) : Prop := alW w (.cells #[.int .i64 4] 3) fun B1 w2 => Calls Try.prog 7 #[.slice (some ⟨B1, 0, none⟩) 1 1] w2 fun e3 w4 => ∃ p5, e3 = .returned (.pointer p5) ∧ (sel p5.isNone (Q (.returned (.bool false)) w4) (∃ k42, l0 k42 p5 1 w4 (fun w9 => ∀ _ : Fr, Calls Try.prog 16 #[.pointer p5, .agg #[.int .i64 1, .int .i64 1, .int .i64 2, .int .i64 3]] w9 fun e10 w11 => ∃ x12, e10 = .returned (.int .i64 x12) ∧ (Calls Try.prog 16 #[.pointer p5, .agg #[.int .i64 2, .int .i64 2, .int .i64 3, .int .i64 4]] w11 fun e13 w14 => ∃ x15, e13 = .returned (.int .i64 x15) ∧ (Calls Try.prog 16 #[.pointer p5, .agg #[.int .i64 3, .int .i64 2, .int .i64 4, .int .i64 5]] w14 fun e16 w17 => ∃ x18, e16 = .returned (.int .i64 x18) ∧ (Calls Try.prog 13 #[.pointer p5, .int .i64 1] w17 fun e19 w20 => ∃ x21_0 x21_1, e19 = .returned (.tuple #[.int .i64 x21_0, .int .i64 x21_1]) ∧ (Calls Try.prog 14 #[.pointer p5, .int .i64 1] w20 fun e22 w23 => ∃ x24_0 x24_1 x24_2, e22 = .returned (.tuple #[.int .i64 x24_0, .int .i64 x24_1, .int .i64 x24_2]) ∧ (Calls Try.prog 15 #[.pointer p5, .int .i64 1, .int .i64 3] w23 fun e25 w26 => ∃ x27_0 x27_1, e25 = .returned (.tuple #[.int .i64 x27_0, .int .i64 x27_1]) ∧ (Calls Try.prog 17 #[.pointer p5, .int .i64 3] w26 fun e28 w29 => ∃ x30, e28 = .returned (.int .i64 x30) ∧ (Calls Try.prog 13 #[.pointer p5, .int .i64 1] w29 fun e31 w32 => ∃ x33_0 x33_1, e31 = .returned (.tuple #[.int .i64 x33_0, .int .i64 x33_1]) ∧ (Calls Try.prog 13 #[.pointer p5, .int .i64 4] w32 fun e34 w35 => ∃ x36_0 x36_1, e34 = .returned (.tuple #[.int .i64 x36_0, .int .i64 x36_1]) ∧ (Calls Try.prog 10 #[.pointer p5] w35 fun e37 w38 => ∃ x39_0 x39_1, e37 = .returned (.tuple #[.int .i64 x39_0, .int .i64 x39_1]) ∧ (sel (x12 == 0) (sel (x15 == 0) (sel (x18 == 0) (sel (x21_0 == 9) (sel (x21_1 == 0) (sel (x24_0 == 3) (sel (x24_1 == 4) (sel (x24_2 == 0) (sel (x27_0 == 7) (sel (x27_1 == 0) (sel (x30 == 0) (sel (x33_0 == 7) (sel (x33_1 == 0) (sel (x36_0 == 0) (sel (x36_1 == 0) (sel (x39_0 == 4) (Q (.returned (.bool (x39_1 == 2))) w38) (Q (.returned (.bool false)) w38)) (Q (.returned (.bool false)) w38)) (Q (.returned (.bool false)) w38)) (Q (.returned (.bool false)) w38)) (Q (.returned (.bool false)) w38)) (Q (.returned (.bool false)) w38)) (Q (.returned (.bool false)) w38)) (Q (.returned (.bool false)) w38)) (Q (.returned (.bool false)) w38)) (sel (x24_0 == 4) (sel (x24_1 == 3) (sel (x24_2 == 0) (sel (x27_0 == 7) (sel (x27_1 == 0) (sel (x30 == 0) (sel (x33_0 == 7) (sel (x33_1 == 0) (sel (x36_0 == 0) (sel (x36_1 == 0) (sel (x39_0 == 4) (Q (.returned (.bool (x39_1 == 2))) w38) (Q (.returned (.bool false)) w38)) (Q (.returned (.bool false)) w38)) (Q (.returned (.bool false)) w38)) (Q (.returned (.bool false)) w38)) (Q (.returned (.bool false)) w38)) (Q (.returned (.bool false)) w38)) (Q (.returned (.bool false)) w38)) (Q (.returned (.bool false)) w38)) (Q (.returned (.bool false)) w38)) (Q (.returned (.bool false)) w38)) (Q (.returned (.bool false)) w38))) (sel (x24_0 == 4) (sel (x24_1 == 3) (sel (x24_2 == 0) (sel (x27_0 == 7) (sel (x27_1 == 0) (sel (x30 == 0) (sel (x33_0 == 7) (sel (x33_1 == 0) (sel (x36_0 == 0) (sel (x36_1 == 0) (sel (x39_0 == 4) (Q (.returned (.bool (x39_1 == 2))) w38) (Q (.returned (.bool false)) w38)) (Q (.returned (.bool false)) w38)) (Q (.returned (.bool false)) w38)) (Q (.returned (.bool false)) w38)) (Q (.returned (.bool false)) w38)) (Q (.returned (.bool false)) w38)) (Q (.returned (.bool false)) w38)) (Q (.returned (.bool false)) w38)) (Q (.returned (.bool false)) w38)) (Q (.returned (.bool false)) w38)) (Q (.returned (.bool false)) w38))) (Q (.returned (.bool false)) w38)) (Q (.returned (.bool false)) w38)) (Q (.returned (.bool false)) w38)) (Q (.returned (.bool false)) w38)) (Q (.returned (.bool false)) w38)))))))))))) (fun b40 w41 => ∀ _ : Fr, Q (.returned (.bool b40)) w41)))
def D : Nat → Option DH := dtab []
def l0LO : LO := ⟨[], [0], [(0, [1])], []⟩
def l0Tk (k : Nat) : Spec := fun Q σ w => gPtr (σ 1) fun pt1 => gInt .i64 (σ 2) fun xt2 => l0 k pt1 xt2 w (fun w => ∀ d : Fr, Q (.exit 0) (ov d [(1, .pointer pt1)]) w) (fun bq0 w => ∀ d : Fr, Q .ret (ov d [(0, .bool bq0)]) w)
def l0T : Spec := fun Q σ w => ∃ k, l0Tk k Q σ w
def l0tb : List (List Nat × Spec) := []
noncomputable def l0b : Code := (subC [0, 0, 1, 0, 1, 1, 1] body).getD .skip
theorem l0_eq (k : Nat) (pt1 : Option Addr) (xt2 : Int) (Q : PQ) (σ : Fr) (w : World) : l0 (k + 1) pt1 xt2 w (fun w => ∀ d : Fr, Q (.exit 0) (ov d [(1, .pointer pt1)]) w) (fun bq0 w => ∀ d : Fr, Q .ret (ov d [(0, .bool bq0)]) w) = codeW Try.prog hT 148 D (tab l0tb) [0, 0, 1, 0, 1, 1, 1] l0b (thenQ (l0Tk k Q) (widen l0LO Q)) (ov σ [(1, .pointer pt1), (2, .int .i64 xt2)]) w := by kernel_rfl
theorem l0_snd : ∀ c, subC [0, 1, 0, 1, 1, 1] body = some c → Snd Try.prog 148 c l0T := by
 refine loop_of (hT := hT) (D := D) (l := l0tb) (b := l0b) (lo := l0LO) (by kernel_rfl) (by
  intro x hx
  simp only [l0tb, List.not_mem_nil] at hx
  ) (by kernel_rfl) (by kernel_rfl) ?_ ?_
 ·intro Q σ w h
  unfold l0Tk at h
  obtain ⟨_, _, h⟩ := gPtr_elim h
  obtain ⟨_, _, h⟩ := gInt_elim h
  exact h
 ·intro k Q σ w h
  unfold l0Tk at h
  obtain ⟨pt1, h1, h⟩ := gPtr_elim h
  obtain ⟨xt2, h2, h⟩ := gInt_elim h
  rw [l0_eq (σ := σ)] at h
  have e : (ov σ [(1, .pointer pt1), (2, .int .i64 xt2)]) = σ := ov_self (by simp [h1, h2])
  rw [e] at h
  exact h
def tb : List (List Nat × Spec) := [([0, 1, 0, 1, 1, 1], l0T)]
theorem wp_eq (w : World) (Q : Ending → World → Prop) : wp w Q = codeW Try.prog hT 148 D (tab tb) [] body (topQ Try.prog hT 148 [.tmp 0] Q) (argsF []) w := by kernel_rfl
theorem ok (w : World) (Q : Ending → World → Prop) (h : wp w Q) : Calls Try.prog 8 #[] w Q := by
 rw [wp_eq] at h
 refine calls_of_codeW (c := body) (rs := [.tmp 0]) Try.func8 ?_ ?_ ?_ ?_ ?_ (tab_snd (by
  intro x hx
  simp only [tb, List.mem_cons, List.not_mem_nil, or_false] at hx
  subst hx
  exact l0_snd)) ?_ h <;> kernel_rfl
end f_law20_alive
namespace f_law20_does
noncomputable def body : Code := (Try.f9.body).getD .skip
def wp (aa0 : Addr) (Aa1_0 : Option Addr) (na1_0 ca1_0 : Nat) (Aa1_1 : Option Addr) (na1_1 ca1_1 : Nat) (Aa1_2 : Option Addr) (na1_2 ca1_2 : Nat) (Aa1_3 : Option Addr) (na1_3 ca1_3 : Nat) (xa2_0 xa2_1 xa2_2 xa2_3 xa2_4 : Int) (w : World) (Q : Ending → World → Prop) : Prop := alW w (.cells #[.slice Aa1_0 na1_0 ca1_0, .slice Aa1_1 na1_1 ca1_1, .slice Aa1_2 na1_2 ca1_2, .slice Aa1_3 na1_3 ca1_3] 31) fun B1 w2 => alW w2 (.cells #[.int .i64 xa2_0, .int .i64 xa2_1, .int .i64 xa2_2, .int .i64 xa2_3, .int .i64 xa2_4] 35) fun B3 w4 => alW w4 (.cells #[.slice none 0 0, .slice none 0 0, .slice none 0 0, .slice none 0 0] 31) fun B5 w6 => ldI w6 ⟨B3, 0, none⟩ .i64 fun x7 => sel (x7 == 1) (ldI w6 (((⟨B3, 0, none⟩ : Addr).add 1).add 1) .i64 fun x8 => Calls Try.prog 22 #[.pointer (some aa0), .int .i64 x8] w6 fun e9 w10 => ∃ x11, e9 = .returned (.int .i64 x11) ∧ (ldS w10 ⟨B1, 0, none⟩ fun A12 n12 c12 => ldS w10 (.add ⟨B1, 0, none⟩ 1) fun A13 n13 c13 => ldS w10 (.add ⟨B1, 0, none⟩ 2) fun A14 n14 c14 => ldS w10 (.add ⟨B1, 0, none⟩ 3) fun A15 n15 c15 => ldI w10 (((⟨B3, 0, none⟩ : Addr).add 1).add 1) .i64 fun x16 => Calls Try.prog 18 #[.agg #[.slice A12 n12 c12, .slice A13 n13 c13, .slice A14 n14 c14, .slice A15 n15 c15], .int .i64 x16] w10 fun e17 w18 => ∃ A19_0_0 n19_0_0 c19_0_0 A19_0_1 n19_0_1 c19_0_1 A19_0_2 n19_0_2 c19_0_2 A19_0_3 n19_0_3 c19_0_3 x19_1, e17 = .returned (.tuple #[.agg #[.slice A19_0_0 n19_0_0 c19_0_0, .slice A19_0_1 n19_0_1 c19_0_1, .slice A19_0_2 n19_0_2 c19_0_2, .slice A19_0_3 n19_0_3 c19_0_3], .int .i64 x19_1]) ∧ (alW w18 (.cells #[.slice none 0 0, .slice none 0 0, .slice none 0 0, .slice none 0 0] 31) fun B20 w21 => stW w21 ⟨B20, 0, none⟩ (.slice A19_0_0 n19_0_0 c19_0_0) fun w22 => stW w22 (.add ⟨B20, 0, none⟩ 1) (.slice A19_0_1 n19_0_1 c19_0_1) fun w23 => stW w23 (.add ⟨B20, 0, none⟩ 2) (.slice A19_0_2 n19_0_2 c19_0_2) fun w24 => stW w24 (.add ⟨B20, 0, none⟩ 3) (.slice A19_0_3 n19_0_3 c19_0_3) fun w25 => ldS w25 ⟨B20, 0, none⟩ fun A26 n26 c26 => ldS w25 (.add ⟨B20, 0, none⟩ 1) fun A27 n27 c27 => ldS w25 (.add ⟨B20, 0, none⟩ 2) fun A28 n28 c28 => ldS w25 (.add ⟨B20, 0, none⟩ 3) fun A29 n29 c29 => stW w25 ⟨B5, 0, none⟩ (.slice A26 n26 c26) fun w30 => stW w30 (.add ⟨B5, 0, none⟩ 1) (.slice A27 n27 c27) fun w31 => stW w31 (.add ⟨B5, 0, none⟩ 2) (.slice A28 n28 c28) fun w32 => stW w32 (.add ⟨B5, 0, none⟩ 3) (.slice A29 n29 c29) fun w33 => ldS w33 ⟨B5, 0, none⟩ fun A34 n34 c34 => ldS w33 (.add ⟨B5, 0, none⟩ 1) fun A35 n35 c35 => ldS w33 (.add ⟨B5, 0, none⟩ 2) fun A36 n36 c36 => ldS w33 (.add ⟨B5, 0, none⟩ 3) fun A37 n37 c37 => Q (.returned (.tuple #[.agg #[.slice A34 n34 c34, .slice A35 n35 c35, .slice A36 n36 c36, .slice A37 n37 c37], .bool (x11 == x19_1)])) w33))) (sel (x7 == 2) (ldI w6 (((⟨B3, 0, none⟩ : Addr).add 1).add 1) .i64 fun x38 => Calls Try.prog 25 #[.pointer (some aa0), .int .i64 x38] w6 fun e39 w40 => ∃ x41, e39 = .returned (.int .i64 x41) ∧ (ldS w40 ⟨B1, 0, none⟩ fun A42 n42 c42 => ldS w40 (.add ⟨B1, 0, none⟩ 1) fun A43 n43 c43 => ldS w40 (.add ⟨B1, 0, none⟩ 2) fun A44 n44 c44 => ldS w40 (.add ⟨B1, 0, none⟩ 3) fun A45 n45 c45 => ldI w40 (((⟨B3, 0, none⟩ : Addr).add 1).add 1) .i64 fun x46 => Calls Try.prog 19 #[.agg #[.slice A42 n42 c42, .slice A43 n43 c43, .slice A44 n44 c44, .slice A45 n45 c45], .int .i64 x46] w40 fun e47 w48 => ∃ A49_0_0 n49_0_0 c49_0_0 A49_0_1 n49_0_1 c49_0_1 A49_0_2 n49_0_2 c49_0_2 A49_0_3 n49_0_3 c49_0_3 x49_1, e47 = .returned (.tuple #[.agg #[.slice A49_0_0 n49_0_0 c49_0_0, .slice A49_0_1 n49_0_1 c49_0_1, .slice A49_0_2 n49_0_2 c49_0_2, .slice A49_0_3 n49_0_3 c49_0_3], .int .i64 x49_1]) ∧ (alW w48 (.cells #[.slice none 0 0, .slice none 0 0, .slice none 0 0, .slice none 0 0] 31) fun B50 w51 => stW w51 ⟨B50, 0, none⟩ (.slice A49_0_0 n49_0_0 c49_0_0) fun w52 => stW w52 (.add ⟨B50, 0, none⟩ 1) (.slice A49_0_1 n49_0_1 c49_0_1) fun w53 => stW w53 (.add ⟨B50, 0, none⟩ 2) (.slice A49_0_2 n49_0_2 c49_0_2) fun w54 => stW w54 (.add ⟨B50, 0, none⟩ 3) (.slice A49_0_3 n49_0_3 c49_0_3) fun w55 => ldS w55 ⟨B50, 0, none⟩ fun A56 n56 c56 => ldS w55 (.add ⟨B50, 0, none⟩ 1) fun A57 n57 c57 => ldS w55 (.add ⟨B50, 0, none⟩ 2) fun A58 n58 c58 => ldS w55 (.add ⟨B50, 0, none⟩ 3) fun A59 n59 c59 => stW w55 ⟨B5, 0, none⟩ (.slice A56 n56 c56) fun w60 => stW w60 (.add ⟨B5, 0, none⟩ 1) (.slice A57 n57 c57) fun w61 => stW w61 (.add ⟨B5, 0, none⟩ 2) (.slice A58 n58 c58) fun w62 => stW w62 (.add ⟨B5, 0, none⟩ 3) (.slice A59 n59 c59) fun w63 => ldS w63 ⟨B5, 0, none⟩ fun A64 n64 c64 => ldS w63 (.add ⟨B5, 0, none⟩ 1) fun A65 n65 c65 => ldS w63 (.add ⟨B5, 0, none⟩ 2) fun A66 n66 c66 => ldS w63 (.add ⟨B5, 0, none⟩ 3) fun A67 n67 c67 => Q (.returned (.tuple #[.agg #[.slice A64 n64 c64, .slice A65 n65 c65, .slice A66 n66 c66, .slice A67 n67 c67], .bool (x41 == x49_1)])) w63))) (sel (x7 == 3) (ldI w6 (.add ⟨B3, 0, none⟩ 1) .i64 fun x68 => ldI w6 (((⟨B3, 0, none⟩ : Addr).add 1).add 1) .i64 fun x69 => ldI w6 (((⟨B3, 0, none⟩ : Addr).add 1).add 2) .i64 fun x70 => ldI w6 (((⟨B3, 0, none⟩ : Addr).add 1).add 3) .i64 fun x71 => Calls Try.prog 16 #[.pointer (some aa0), .agg #[.int .i64 x68, .int .i64 x69, .int .i64 x70, .int .i64 x71]] w6 fun e72 w73 => ∃ x74, e72 = .returned (.int .i64 x74) ∧ (ldS w73 ⟨B1, 0, none⟩ fun A75 n75 c75 => ldS w73 (.add ⟨B1, 0, none⟩ 1) fun A76 n76 c76 => ldS w73 (.add ⟨B1, 0, none⟩ 2) fun A77 n77 c77 => ldS w73 (.add ⟨B1, 0, none⟩ 3) fun A78 n78 c78 => ldI w73 (.add ⟨B3, 0, none⟩ 1) .i64 fun x79 => ldI w73 (((⟨B3, 0, none⟩ : Addr).add 1).add 1) .i64 fun x80 => ldI w73 (((⟨B3, 0, none⟩ : Addr).add 1).add 2) .i64 fun x81 => ldI w73 (((⟨B3, 0, none⟩ : Addr).add 1).add 3) .i64 fun x82 => Calls Try.prog 20 #[.agg #[.slice A75 n75 c75, .slice A76 n76 c76, .slice A77 n77 c77, .slice A78 n78 c78], .agg #[.int .i64 x79, .int .i64 x80, .int .i64 x81, .int .i64 x82]] w73 fun e83 w84 => ∃ A85_0_0 n85_0_0 c85_0_0 A85_0_1 n85_0_1 c85_0_1 A85_0_2 n85_0_2 c85_0_2 A85_0_3 n85_0_3 c85_0_3 x85_1, e83 = .returned (.tuple #[.agg #[.slice A85_0_0 n85_0_0 c85_0_0, .slice A85_0_1 n85_0_1 c85_0_1, .slice A85_0_2 n85_0_2 c85_0_2, .slice A85_0_3 n85_0_3 c85_0_3], .int .i64 x85_1]) ∧ (alW w84 (.cells #[.slice none 0 0, .slice none 0 0, .slice none 0 0, .slice none 0 0] 31) fun B86 w87 => stW w87 ⟨B86, 0, none⟩ (.slice A85_0_0 n85_0_0 c85_0_0) fun w88 => stW w88 (.add ⟨B86, 0, none⟩ 1) (.slice A85_0_1 n85_0_1 c85_0_1) fun w89 => stW w89 (.add ⟨B86, 0, none⟩ 2) (.slice A85_0_2 n85_0_2 c85_0_2) fun w90 => stW w90 (.add ⟨B86, 0, none⟩ 3) (.slice A85_0_3 n85_0_3 c85_0_3) fun w91 => ldS w91 ⟨B86, 0, none⟩ fun A92 n92 c92 => ldS w91 (.add ⟨B86, 0, none⟩ 1) fun A93 n93 c93 => ldS w91 (.add ⟨B86, 0, none⟩ 2) fun A94 n94 c94 => ldS w91 (.add ⟨B86, 0, none⟩ 3) fun A95 n95 c95 => stW w91 ⟨B5, 0, none⟩ (.slice A92 n92 c92) fun w96 => stW w96 (.add ⟨B5, 0, none⟩ 1) (.slice A93 n93 c93) fun w97 => stW w97 (.add ⟨B5, 0, none⟩ 2) (.slice A94 n94 c94) fun w98 => stW w98 (.add ⟨B5, 0, none⟩ 3) (.slice A95 n95 c95) fun w99 => ldS w99 ⟨B5, 0, none⟩ fun A100 n100 c100 => ldS w99 (.add ⟨B5, 0, none⟩ 1) fun A101 n101 c101 => ldS w99 (.add ⟨B5, 0, none⟩ 2) fun A102 n102 c102 => ldS w99 (.add ⟨B5, 0, none⟩ 3) fun A103 n103 c103 => Q (.returned (.tuple #[.agg #[.slice A100 n100 c100, .slice A101 n101 c101, .slice A102 n102 c102, .slice A103 n103 c103], .bool (x74 == x85_1)])) w99))) (sel (x7 == 4) (ldI w6 (.add ⟨B3, 0, none⟩ 1) .i64 fun x104 => Calls Try.prog 17 #[.pointer (some aa0), .int .i64 x104] w6 fun e105 w106 => ∃ x107, e105 = .returned (.int .i64 x107) ∧ (ldS w106 ⟨B1, 0, none⟩ fun A108 n108 c108 => ldS w106 (.add ⟨B1, 0, none⟩ 1) fun A109 n109 c109 => ldS w106 (.add ⟨B1, 0, none⟩ 2) fun A110 n110 c110 => ldS w106 (.add ⟨B1, 0, none⟩ 3) fun A111 n111 c111 => ldI w106 (.add ⟨B3, 0, none⟩ 1) .i64 fun x112 => Calls Try.prog 21 #[.agg #[.slice A108 n108 c108, .slice A109 n109 c109, .slice A110 n110 c110, .slice A111 n111 c111], .int .i64 x112] w106 fun e113 w114 => ∃ A115_0_0 n115_0_0 c115_0_0 A115_0_1 n115_0_1 c115_0_1 A115_0_2 n115_0_2 c115_0_2 A115_0_3 n115_0_3 c115_0_3 x115_1, e113 = .returned (.tuple #[.agg #[.slice A115_0_0 n115_0_0 c115_0_0, .slice A115_0_1 n115_0_1 c115_0_1, .slice A115_0_2 n115_0_2 c115_0_2, .slice A115_0_3 n115_0_3 c115_0_3], .int .i64 x115_1]) ∧ (alW w114 (.cells #[.slice none 0 0, .slice none 0 0, .slice none 0 0, .slice none 0 0] 31) fun B116 w117 => stW w117 ⟨B116, 0, none⟩ (.slice A115_0_0 n115_0_0 c115_0_0) fun w118 => stW w118 (.add ⟨B116, 0, none⟩ 1) (.slice A115_0_1 n115_0_1 c115_0_1) fun w119 => stW w119 (.add ⟨B116, 0, none⟩ 2) (.slice A115_0_2 n115_0_2 c115_0_2) fun w120 => stW w120 (.add ⟨B116, 0, none⟩ 3) (.slice A115_0_3 n115_0_3 c115_0_3) fun w121 => ldS w121 ⟨B116, 0, none⟩ fun A122 n122 c122 => ldS w121 (.add ⟨B116, 0, none⟩ 1) fun A123 n123 c123 => ldS w121 (.add ⟨B116, 0, none⟩ 2) fun A124 n124 c124 => ldS w121 (.add ⟨B116, 0, none⟩ 3) fun A125 n125 c125 => stW w121 ⟨B5, 0, none⟩ (.slice A122 n122 c122) fun w126 => stW w126 (.add ⟨B5, 0, none⟩ 1) (.slice A123 n123 c123) fun w127 => stW w127 (.add ⟨B5, 0, none⟩ 2) (.slice A124 n124 c124) fun w128 => stW w128 (.add ⟨B5, 0, none⟩ 3) (.slice A125 n125 c125) fun w129 => ldS w129 ⟨B5, 0, none⟩ fun A130 n130 c130 => ldS w129 (.add ⟨B5, 0, none⟩ 1) fun A131 n131 c131 => ldS w129 (.add ⟨B5, 0, none⟩ 2) fun A132 n132 c132 => ldS w129 (.add ⟨B5, 0, none⟩ 3) fun A133 n133 c133 => Q (.returned (.tuple #[.agg #[.slice A130 n130 c130, .slice A131 n131 c131, .slice A132 n132 c132, .slice A133 n133 c133], .bool (x107 == x115_1)])) w129))) (ldS w6 ⟨B1, 0, none⟩ fun A134 n134 c134 => ldS w6 (.add ⟨B1, 0, none⟩ 1) fun A135 n135 c135 => ldS w6 (.add ⟨B1, 0, none⟩ 2) fun A136 n136 c136 => ldS w6 (.add ⟨B1, 0, none⟩ 3) fun A137 n137 c137 => stW w6 ⟨B5, 0, none⟩ (.slice A134 n134 c134) fun w138 => stW w138 (.add ⟨B5, 0, none⟩ 1) (.slice A135 n135 c135) fun w139 => stW w139 (.add ⟨B5, 0, none⟩ 2) (.slice A136 n136 c136) fun w140 => stW w140 (.add ⟨B5, 0, none⟩ 3) (.slice A137 n137 c137) fun w141 => ldS w141 ⟨B5, 0, none⟩ fun A142 n142 c142 => ldS w141 (.add ⟨B5, 0, none⟩ 1) fun A143 n143 c143 => ldS w141 (.add ⟨B5, 0, none⟩ 2) fun A144 n144 c144 => ldS w141 (.add ⟨B5, 0, none⟩ 3) fun A145 n145 c145 => Q (.returned (.tuple #[.agg #[.slice A142 n142 c142, .slice A143 n143 c143, .slice A144 n144 c144, .slice A145 n145 c145], .bool true])) w141))))
def D : Nat → Option DH := dtab []
def tb : List (List Nat × Spec) := []
variable (aa0 : Addr) (Aa1_0 : Option Addr) (na1_0 ca1_0 : Nat) (Aa1_1 : Option Addr) (na1_1 ca1_1 : Nat) (Aa1_2 : Option Addr) (na1_2 ca1_2 : Nat) (Aa1_3 : Option Addr) (na1_3 ca1_3 : Nat) (xa2_0 xa2_1 xa2_2 xa2_3 xa2_4 : Int) (w : World) (Q : Ending → World → Prop)
theorem wp_eq : wp aa0 Aa1_0 na1_0 ca1_0 Aa1_1 na1_1 ca1_1 Aa1_2 na1_2 ca1_2 Aa1_3 na1_3 ca1_3 xa2_0 xa2_1 xa2_2 xa2_3 xa2_4 w Q = codeW Try.prog hT 97 D (tab tb) [] body (topQ Try.prog hT 97 [.cell 6 31, .tmp 7] Q) (argsF [.pointer (some aa0), .agg #[.slice Aa1_0 na1_0 ca1_0, .slice Aa1_1 na1_1 ca1_1, .slice Aa1_2 na1_2 ca1_2, .slice Aa1_3 na1_3 ca1_3], .agg #[.int .i64 xa2_0, .int .i64 xa2_1, .int .i64 xa2_2, .int .i64 xa2_3, .int .i64 xa2_4]]) w := by kernel_rfl
theorem ok (h : wp aa0 Aa1_0 na1_0 ca1_0 Aa1_1 na1_1 ca1_1 Aa1_2 na1_2 ca1_2 Aa1_3 na1_3 ca1_3 xa2_0 xa2_1 xa2_2 xa2_3 xa2_4 w Q) : Calls Try.prog 9 #[.pointer (some aa0), .agg #[.slice Aa1_0 na1_0 ca1_0, .slice Aa1_1 na1_1 ca1_1, .slice Aa1_2 na1_2 ca1_2, .slice Aa1_3 na1_3 ca1_3], .agg #[.int .i64 xa2_0, .int .i64 xa2_1, .int .i64 xa2_2, .int .i64 xa2_3, .int .i64 xa2_4]] w Q := by
 rw [wp_eq] at h
 refine calls_of_codeW (c := body) (rs := [.cell 6 31, .tmp 7]) Try.func9 ?_ ?_ ?_ ?_ ?_ (tab_snd (by
  intro x hx
  simp only [tb, List.not_mem_nil] at hx
  )) ?_ h <;> kernel_rfl
end f_law20_does
namespace f_law20_tells
noncomputable def body : Code := (Try.f11.body).getD .skip
def wp (aa0 : Addr) (Aa1_0 : Option Addr) (na1_0 ca1_0 : Nat) (Aa1_1 : Option Addr) (na1_1 ca1_1 : Nat) (Aa1_2 : Option Addr) (na1_2 ca1_2 : Nat) (Aa1_3 : Option Addr) (na1_3 ca1_3 : Nat) (xa2 xa3 : Int) (w : World) (Q : Ending → World → Prop) : Prop := alW w (.cells #[.slice Aa1_0 na1_0 ca1_0, .slice Aa1_1 na1_1 ca1_1, .slice Aa1_2 na1_2 ca1_2, .slice Aa1_3 na1_3 ca1_3] 31) fun B1 w2 => Calls Try.prog 13 #[.pointer (some aa0), .int .i64 xa2] w2 fun e3 w4 => ∃ x5_0 x5_1, e3 = .returned (.tuple #[.int .i64 x5_0, .int .i64 x5_1]) ∧ (Calls Try.prog 14 #[.pointer (some aa0), .int .i64 xa2] w4 fun e6 w7 => ∃ x8_0 x8_1 x8_2, e6 = .returned (.tuple #[.int .i64 x8_0, .int .i64 x8_1, .int .i64 x8_2]) ∧ (Calls Try.prog 15 #[.pointer (some aa0), .int .i64 xa2, .int .i64 xa3] w7 fun e9 w10 => ∃ x11_0 x11_1, e9 = .returned (.tuple #[.int .i64 x11_0, .int .i64 x11_1]) ∧ (ldS w10 ⟨B1, 0, none⟩ fun A12 n12 c12 => ldS w10 (.add ⟨B1, 0, none⟩ 1) fun A13 n13 c13 => ldS w10 (.add ⟨B1, 0, none⟩ 2) fun A14 n14 c14 => ldS w10 (.add ⟨B1, 0, none⟩ 3) fun A15 n15 c15 => Calls Try.prog 26 #[.agg #[.slice A12 n12 c12, .slice A13 n13 c13, .slice A14 n14 c14, .slice A15 n15 c15], .int .i64 xa2, .int .i64 xa3] w10 fun e16 w17 => ∃ x18_0_0 x18_0_1 x18_0_2 x18_0_3 r18_0_4 i18_0_4 x18_1, e16 = .returned (.tuple #[.agg #[.int .i64 x18_0_0, .int .i64 x18_0_1, .int .i64 x18_0_2, .int .i64 x18_0_3, .complex .f64 r18_0_4 i18_0_4], .int .i64 x18_1]) ∧ (alW w17 (.cells #[.int .i64 0, .int .i64 0, .int .i64 0, .int .i64 0, .complex .f64 0 0] 69) fun B19 w20 => stW w20 ⟨B19, 0, none⟩ (.int .i64 x18_0_0) fun w21 => stW w21 (.add ⟨B19, 0, none⟩ 1) (.int .i64 x18_0_1) fun w22 => stW w22 (.add ⟨B19, 0, none⟩ 2) (.int .i64 x18_0_2) fun w23 => stW w23 (.add ⟨B19, 0, none⟩ 3) (.int .i64 x18_0_3) fun w24 => stW w24 (.add ⟨B19, 0, none⟩ 4) (.complex .f64 r18_0_4 i18_0_4) fun w25 => ldC w25 (.add ⟨B19, 0, none⟩ 4) .f64 fun r26 i26 => Runs Try.prog (Go.convert 72 2 (.float .f64 r26)) w25 fun v28 w27 => ∃ x29, v28 = (.int .i64 x29) ∧ (sel (x11_0 != x29) (Q (.returned (.bool false)) w27) (sel (x11_1 != x18_1) (Q (.returned (.bool false)) w27) (ldS w27 ⟨B1, 0, none⟩ fun A30 n30 c30 => Calls Try.prog 27 #[.slice A30 n30 c30, .int .i64 xa2] w27 fun e31 w32 => ∃ b33, e31 = .returned (.bool b33) ∧ (sel (!b33) (sel (x5_0 == 0) (sel (x8_0 == 0) (sel (x8_1 == 0) (sel (x5_1 == 51) (Q (.returned (.bool (x8_2 == 51))) w32) (Q (.returned (.bool false)) w32)) (Q (.returned (.bool false)) w32)) (Q (.returned (.bool false)) w32)) (Q (.returned (.bool false)) w32)) (ldS w32 ⟨B1, 0, none⟩ fun A34 n34 c34 => ldS w32 (.add ⟨B1, 0, none⟩ 1) fun A35 n35 c35 => ldS w32 (.add ⟨B1, 0, none⟩ 2) fun A36 n36 c36 => ldS w32 (.add ⟨B1, 0, none⟩ 3) fun A37 n37 c37 => Calls Try.prog 28 #[.agg #[.slice A34 n34 c34, .slice A35 n35 c35, .slice A36 n36 c36, .slice A37 n37 c37], .int .i64 xa2] w32 fun e38 w39 => ∃ A40 n40 c40, e38 = .returned (.slice A40 n40 c40) ∧ (sel (x5_1 == 0) (sel (x8_2 == 0) (ldS w39 ⟨B1, 0, none⟩ fun A41 n41 c41 => ldS w39 (.add ⟨B1, 0, none⟩ 1) fun A42 n42 c42 => ldS w39 (.add ⟨B1, 0, none⟩ 2) fun A43 n43 c43 => ldS w39 (.add ⟨B1, 0, none⟩ 3) fun A44 n44 c44 => Calls Try.prog 29 #[.agg #[.slice A41 n41 c41, .slice A42 n42 c42, .slice A43 n43 c43, .slice A44 n44 c44], .int .i64 xa2] w39 fun e45 w46 => ∃ x47, e45 = .returned (.int .i64 x47) ∧ (sel (x5_0 == x47) (Calls Try.prog 27 #[.slice A40 n40 c40, .int .i64 x8_0] w46 fun e48 w49 => ∃ b50, e48 = .returned (.bool b50) ∧ (sel b50 (Calls Try.prog 27 #[.slice A40 n40 c40, .int .i64 x8_1] w49 fun e51 w52 => ∃ b53, e51 = .returned (.bool b53) ∧ (sel b53 (ldS w52 ⟨B1, 0, none⟩ fun A54 n54 c54 => ldS w52 (.add ⟨B1, 0, none⟩ 1) fun A55 n55 c55 => ldS w52 (.add ⟨B1, 0, none⟩ 2) fun A56 n56 c56 => ldS w52 (.add ⟨B1, 0, none⟩ 3) fun A57 n57 c57 => Calls Try.prog 30 #[.agg #[.slice A54 n54 c54, .slice A55 n55 c55, .slice A56 n56 c56, .slice A57 n57 c57], .int .i64 x8_0, .int .i64 x8_1] w52 fun e58 w59 => ∃ x60, e58 = .returned (.int .i64 x60) ∧ (sel (x60 == x5_0) (sel (decide ((n40 : Int) > 1)) (Q (.returned (.bool true)) w59) (sel (x8_0 == xa2) (Q (.returned (.bool (x8_1 == xa2))) w59) (Q (.returned (.bool false)) w59))) (Q (.returned (.bool false)) w59))) (Q (.returned (.bool false)) w52))) (Q (.returned (.bool false)) w49))) (Q (.returned (.bool false)) w46))) (Q (.returned (.bool false)) w39)) (Q (.returned (.bool false)) w39)))))))))))
def D : Nat → Option DH := dtab []
def tb : List (List Nat × Spec) := []
variable (aa0 : Addr) (Aa1_0 : Option Addr) (na1_0 ca1_0 : Nat) (Aa1_1 : Option Addr) (na1_1 ca1_1 : Nat) (Aa1_2 : Option Addr) (na1_2 ca1_2 : Nat) (Aa1_3 : Option Addr) (na1_3 ca1_3 : Nat) (xa2 xa3 : Int) (w : World) (Q : Ending → World → Prop)
theorem wp_eq : wp aa0 Aa1_0 na1_0 ca1_0 Aa1_1 na1_1 ca1_1 Aa1_2 na1_2 ca1_2 Aa1_3 na1_3 ca1_3 xa2 xa3 w Q = codeW Try.prog hT 130 D (tab tb) [] body (topQ Try.prog hT 130 [.tmp 8] Q) (argsF [.pointer (some aa0), .agg #[.slice Aa1_0 na1_0 ca1_0, .slice Aa1_1 na1_1 ca1_1, .slice Aa1_2 na1_2 ca1_2, .slice Aa1_3 na1_3 ca1_3], .int .i64 xa2, .int .i64 xa3]) w := by kernel_rfl
theorem ok (h : wp aa0 Aa1_0 na1_0 ca1_0 Aa1_1 na1_1 ca1_1 Aa1_2 na1_2 ca1_2 Aa1_3 na1_3 ca1_3 xa2 xa3 w Q) : Calls Try.prog 11 #[.pointer (some aa0), .agg #[.slice Aa1_0 na1_0 ca1_0, .slice Aa1_1 na1_1 ca1_1, .slice Aa1_2 na1_2 ca1_2, .slice Aa1_3 na1_3 ca1_3], .int .i64 xa2, .int .i64 xa3] w Q := by
 rw [wp_eq] at h
 refine calls_of_codeW (c := body) (rs := [.tmp 8]) Try.func11 ?_ ?_ ?_ ?_ ?_ (tab_snd (by
  intro x hx
  simp only [tb, List.not_mem_nil] at hx
  )) ?_ h <;> kernel_rfl
end f_law20_tells
end Go.Proofs.Ytklnlnjgaadjbaa.Rd
