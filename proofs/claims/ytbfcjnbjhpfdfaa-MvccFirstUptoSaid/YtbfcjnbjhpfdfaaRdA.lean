/- The printed readings of some functions: each function's code reckoned by the kernel to its predicate transformer. -/
import Derived.Test.YtbfcjnbjhpfdfaaHint
namespace Go.Proofs.Ytbfcjnbjhpfdfaa.Rd
open Go.Dn
set_option maxRecDepth 100000
set_option linter.unusedVariables false
namespace f_mvcc_New
/-! skein/mvcc.New: function 8 -/
noncomputable def body : Code := (Try.f8.body).getD .skip
def wp (xa0 : Int) (w : World) (Q : Ending → World → Prop) : Prop :=
  alW w (.map #[] 0) fun B1 w2 =>
  alW w2 (.map #[] 0) fun B3 w4 =>
  alW w4 (.cells #[.int .i64 (if (1099511627776 : Int) < (if (0 : Int) > xa0 then (0 : Int) else xa0) then (1099511627776 : Int) else (if (0 : Int) > xa0 then (0 : Int) else xa0)), .int .i64 (0 : Int), .map (some B1), .map (some B3)] 60) fun B5 w6 =>
  Q (.returned (.pointer (some (⟨B5, 0, Option.none⟩ : Addr)))) w6
def D : Nat → Option DH := dtab []
def tb : List (List Nat × Spec) := []
theorem wp_eq (xa0 : Int) (w : World) (Q : Ending → World → Prop) :
    wp xa0 w Q = codeW Try.prog hT 10 D (tab tb) [] body (topQ Try.prog hT 10 [.tmp 2] Q) (argsF [.int .i64 xa0]) w := by kernel_rfl
theorem ok (xa0 : Int) (w : World) (Q : Ending → World → Prop) (h : wp xa0 w Q) : Calls Try.prog 8 #[.int .i64 xa0] w Q := by
  rw [wp_eq] at h
  exact calls_of_codeW (c := body) (rs := [.tmp 2]) Try.func8 (by kernel_rfl) (by kernel_rfl) (by kernel_rfl) (by kernel_rfl) (by kernel_rfl) (tab_snd (by
    intro x hx
    simp only [tb, List.not_mem_nil] at hx
    )) (by kernel_rfl) h
end f_mvcc_New
namespace f_mvcc_Table_Live
/-! (*skein/mvcc.Table).Live: function 12 -/
noncomputable def body : Code := (Try.f12.body).getD .skip
def wp (aa0 : Addr) (w : World) (Q : Ending → World → Prop) : Prop :=
  ldM w (aa0.add 2) fun m1 =>
  Calls Try.prog 32 #[.map m1] w fun e2 w3 => ∃ (v4 : Value), e2 = .returned (v4) ∧ (
  Calls Try.prog 31 #[v4] w3 fun e5 w6 => ∃ (A7 : Option Addr) (n7 : Nat) (c7 : Nat), e5 = .returned (.slice A7 n7 c7) ∧ (
  Q (.returned (.slice A7 n7 c7)) w6))
def D : Nat → Option DH := dtab []
def tb : List (List Nat × Spec) := []
theorem wp_eq (aa0 : Addr) (w : World) (Q : Ending → World → Prop) :
    wp aa0 w Q = codeW Try.prog hT 9 D (tab tb) [] body (topQ Try.prog hT 9 [.tmp 2] Q) (argsF [.pointer (some aa0)]) w := by kernel_rfl
theorem ok (aa0 : Addr) (w : World) (Q : Ending → World → Prop) (h : wp aa0 w Q) : Calls Try.prog 12 #[.pointer (some aa0)] w Q := by
  rw [wp_eq] at h
  exact calls_of_codeW (c := body) (rs := [.tmp 2]) Try.func12 (by kernel_rfl) (by kernel_rfl) (by kernel_rfl) (by kernel_rfl) (by kernel_rfl) (tab_snd (by
    intro x hx
    simp only [tb, List.not_mem_nil] at hx
    )) (by kernel_rfl) h
end f_mvcc_Table_Live
namespace f_mvcc_Table_Last
/-! (*skein/mvcc.Table).Last: function 13 -/
noncomputable def body : Code := (Try.f13.body).getD .skip
def wp (aa0 : Addr) (w : World) (Q : Ending → World → Prop) : Prop :=
  ldI w aa0 .i64 fun x1 =>
  Q (.returned (.int .i64 x1)) w
def D : Nat → Option DH := dtab []
def tb : List (List Nat × Spec) := []
theorem wp_eq (aa0 : Addr) (w : World) (Q : Ending → World → Prop) :
    wp aa0 w Q = codeW Try.prog hT 7 D (tab tb) [] body (topQ Try.prog hT 7 [.tmp 2] Q) (argsF [.pointer (some aa0)]) w := by kernel_rfl
theorem ok (aa0 : Addr) (w : World) (Q : Ending → World → Prop) (h : wp aa0 w Q) : Calls Try.prog 13 #[.pointer (some aa0)] w Q := by
  rw [wp_eq] at h
  exact calls_of_codeW (c := body) (rs := [.tmp 2]) Try.func13 (by kernel_rfl) (by kernel_rfl) (by kernel_rfl) (by kernel_rfl) (by kernel_rfl) (tab_snd (by
    intro x hx
    simp only [tb, List.not_mem_nil] at hx
    )) (by kernel_rfl) h
end f_mvcc_Table_Last
namespace f_mvcc_Table_Horizon
/-! (*skein/mvcc.Table).Horizon: function 14 -/
noncomputable def body : Code := (Try.f14.body).getD .skip
def l0 : Nat → Int → Option Addr → World → (Int → World → Prop) → Prop
  | 0, _, _, _, _ => False
  | k + 1, xt3, pt14, w, K0 =>
    Runs Try.prog (Instr.next (.pointer pt14) false 0) w fun v7 w6 => ∃ (b8 : Bool) (r8 : List Value), v7 = (.tuple ⟨.bool b8 :: r8⟩) ∧ (
    sel b8 (
    Runs Try.prog (Instr.entry (.pointer pt14)) w6 fun v10 w9 => ∃ (x11_0 : Int) (p11_1 : Option Addr), v10 = (.tuple #[.int .i64 x11_0, .pointer p11_1]) ∧ (
    optB p11_1 fun a12 =>
    ldI w9 a12 .i64 fun x13 =>
    l0 k (if x13 < xt3 then x13 else xt3) pt14 w9 K0)) (
    K0 xt3 w6))
def wp (aa0 : Addr) (w : World) (Q : Ending → World → Prop) : Prop :=
  ldI w aa0 .i64 fun x1 =>
  ldM w (aa0.add 2) fun m2 =>
  Runs Try.prog (Instr.range 57 (.map m2)) w fun v4 w3 => ∃ (p5 : Option Addr), v4 = (.pointer p5) ∧ (
  ∃ k16 : Nat, l0 k16 x1 p5 w3 (fun (x14 : Int) (w15 : World) => ∀ _ : Fr,
  Q (.returned (.int .i64 x14)) w15))
def D : Nat → Option DH := dtab []
def hTe : Hint := fun t => bif Nat.beq t 1000017 then .tup [(.sc (.int .i64)), (.sc .ptr)] else hT t
def l0LO : LO := ⟨[], [], [(0, [3])], []⟩
def l0Tk (k : Nat) : Spec := fun Q σ w =>
  gInt .i64 (σ 3) fun xt3 =>
  gPtr (σ 14) fun pt14 =>
  l0 k xt3 pt14 w (fun (xq3 : Int) (w : World) => ∀ d : Fr, Q (.exit 0) (ov d [(3, .int .i64 xq3)]) w)
def l0T : Spec := fun Q σ w => ∃ k, l0Tk k Q σ w
def l0tb : List (List Nat × Spec) := []
noncomputable def l0b : Code := (subC [0, 0, 1, 0, 1, 1] body).getD .skip
theorem l0_eq (k : Nat) (xt3 : Int) (pt14 : Option Addr) (Q : PQ) (σ : Fr) (w : World) :
    l0 (k + 1) xt3 pt14 w (fun (xq3 : Int) (w : World) => ∀ d : Fr, Q (.exit 0) (ov d [(3, .int .i64 xq3)]) w) = codeW Try.prog hTe 26 D (tab l0tb) [0, 0, 1, 0, 1, 1] l0b (thenQ (l0Tk k Q) (widen l0LO Q)) (ov σ [(3, .int .i64 xt3), (14, .pointer pt14)]) w := by kernel_rfl
theorem l0_snd : ∀ c, subC [0, 1, 0, 1, 1] body = some c → Snd Try.prog 26 c l0T := by
  refine loop_of (hT := hTe) (D := D) (l := l0tb) (b := l0b) (lo := l0LO) (by kernel_rfl) (by
    intro x hx
    simp only [l0tb, List.not_mem_nil] at hx
    ) (by kernel_rfl) (by kernel_rfl) ?_ ?_
  · intro Q σ w h
    unfold l0Tk at h
    obtain ⟨xt3, h3, hn⟩ := gInt_elim h
    clear h
    have h := hn
    clear hn
    obtain ⟨pt14, h14, hn⟩ := gPtr_elim h
    clear h
    have h := hn
    clear hn
    exact h
  · intro k Q σ w h
    unfold l0Tk at h
    obtain ⟨xt3, h3, hn⟩ := gInt_elim h
    clear h
    have h := hn
    clear hn
    obtain ⟨pt14, h14, hn⟩ := gPtr_elim h
    clear h
    have h := hn
    clear hn
    rw [l0_eq (σ := σ)] at h
    have e : (ov σ [(3, .int .i64 xt3), (14, .pointer pt14)]) = σ := ov_self (by simp [h3, h14])
    rw [e] at h
    exact h
def tb : List (List Nat × Spec) := [([0, 1, 0, 1, 1], l0T)]
theorem wp_eq (aa0 : Addr) (w : World) (Q : Ending → World → Prop) :
    wp aa0 w Q = codeW Try.prog hTe 26 D (tab tb) [] body (topQ Try.prog hTe 26 [.tmp 2] Q) (argsF [.pointer (some aa0)]) w := by kernel_rfl
theorem ok (aa0 : Addr) (w : World) (Q : Ending → World → Prop) (h : wp aa0 w Q) : Calls Try.prog 14 #[.pointer (some aa0)] w Q := by
  rw [wp_eq] at h
  exact calls_of_codeW (c := body) (rs := [.tmp 2]) Try.func14 (by kernel_rfl) (by kernel_rfl) (by kernel_rfl) (by kernel_rfl) (by kernel_rfl) (tab_snd (by
    intro x hx
    simp only [tb, List.mem_cons, List.not_mem_nil, or_false] at hx
    subst hx
    exact l0_snd)) (by kernel_rfl) h
end f_mvcc_Table_Horizon
namespace f_mvcc_Table_Begin
/-! (*skein/mvcc.Table).Begin: function 18 -/
noncomputable def body : Code := (Try.f18.body).getD .skip
def wp (aa0 : Addr) (w : World) (Q : Ending → World → Prop) : Prop :=
  ldM w (aa0.add 2) fun m1 =>
  Runs Try.prog (Builtin.len_ #[57] 3 #[.map m1]) w fun v3 w2 => ∃ (x4 : Int), v3 = (.int .i64 x4) ∧ (
  sel (decide (x4 ≥ (8 : Int))) (
  Q (.returned (.tuple #[.int .i64 (0 : Int), .int .i64 (142 : Int)])) w2) (
  ldI w2 (aa0.add 1) .i64 fun x5 =>
  stW w2 (aa0.add 1) (.int .i64 (IntKind.i64.wrap (x5 + (1 : Int)))) fun w6 =>
  drW w6 fun w7 =>
  ∃ S8 : World → Prop, S8 w7 ∧ (
  hdM S8 (aa0.add 2) fun m9 =>
  hdI S8 (aa0.add 1) .i64 fun x10 =>
  hdI S8 aa0 .i64 fun x11 =>
  alW w7 (.map #[] 0) fun B12 w13 =>
  S8 w13 ∧ (
  alW w13 (.cells #[.int .i64 x11, .map (some B12)] 81) fun B14 w15 =>
  S8 w15 ∧ (
  Runs Try.prog (Instr.mapUpdate 57 (.map m9) (.int .i64 x10) (.pointer (some (⟨B14, 0, Option.none⟩ : Addr)))) w15 fun _ w16 =>
  ldI w16 (aa0.add 1) .i64 fun x17 =>
  Q (.returned (.tuple #[.int .i64 x17, .int .i64 (0 : Int)])) w16)))))
def D : Nat → Option DH := dtab [(4, .held [.fst 0, .fst 1, .fst 2, .fst 3, .fst 4, .fst 5, .fst 6, .fst 7, .fst 8, .fst 9, .fst 10, .fst 11, .eff 12, .fst 13, .eff 14] [.eff 15])]
def tb : List (List Nat × Spec) := []
theorem wp_eq (aa0 : Addr) (w : World) (Q : Ending → World → Prop) :
    wp aa0 w Q = codeW Try.prog hT 36 D (tab tb) [] body (topQ Try.prog hT 36 [.tmp 2, .tmp 3] Q) (argsF [.pointer (some aa0)]) w := by kernel_rfl
theorem ok (aa0 : Addr) (w : World) (Q : Ending → World → Prop) (h : wp aa0 w Q) : Calls Try.prog 18 #[.pointer (some aa0)] w Q := by
  rw [wp_eq] at h
  exact calls_of_codeW (c := body) (rs := [.tmp 2, .tmp 3]) Try.func18 (by kernel_rfl) (by kernel_rfl) (by kernel_rfl) (by kernel_rfl) (by kernel_rfl) (tab_snd (by
    intro x hx
    simp only [tb, List.not_mem_nil] at hx
    )) (by kernel_rfl) h
end f_mvcc_Table_Begin
namespace f_mvcc_Table_Touch
/-! (*skein/mvcc.Table).Touch: function 19 -/
noncomputable def body : Code := (Try.f19.body).getD .skip
def l0 : Nat → Option Addr → Option Addr → Nat → Nat → Int → Int → World → (World → Prop) → Prop
  | 0, _, _, _, _, _, _, _, _ => False
  | k + 1, pt7, At18, nt18, ct18, xt19, xt20, w, K0 =>
    sel (decide (xt20 < xt19)) (
    optB At18 fun a5 =>
    req (decide (0 ≤ xt20 ∧ xt20 < (nt18 : Int))) <|
    ldB w (a5.add (xt20.toNat * 2)) fun b6 =>
    ldI w ((a5.add (xt20.toNat * 2)).add 1) .i64 fun x7 =>
    alW w (.cells #[.bool false, .int .i64 (0 : Int)] 62) fun B8 w9 =>
    stW w9 (⟨B8, 0, Option.none⟩ : Addr) (.bool b6) fun w10 =>
    stW w10 ((⟨B8, 0, Option.none⟩ : Addr).add 1) (.int .i64 x7) fun w11 =>
    drW w11 fun w12 =>
    optB pt7 fun a14 =>
    ldM w12 (a14.add 1) fun m15 =>
    ldB w12 (⟨B8, 0, Option.none⟩ : Addr) fun b16 =>
    ldI w12 ((⟨B8, 0, Option.none⟩ : Addr).add 1) .i64 fun x17 =>
    Runs Try.prog (Instr.mapUpdate 79 (.map m15) (.agg #[.bool b16, .int .i64 x17]) (.bool true)) w12 fun _ w18 =>
    l0 k pt7 At18 nt18 ct18 xt19 (IntKind.i64.wrap (xt20 + (1 : Int))) w18 K0) (
    K0  w)
def wp (aa0 : Addr) (xa1 : Int) (Aa2 : Option Addr) (na2 : Nat) (ca2 : Nat) (w : World) (Q : Ending → World → Prop) : Prop :=
  ldM w (aa0.add 2) fun m1 =>
  Runs Try.prog (Instr.lookup 57 (.map m1) (.int .i64 xa1) false) w fun v3 w2 => ∃ (p4 : Option Addr), v3 = (.pointer p4) ∧ (
  sel p4.isNone (
  Q (.returned (.int .i64 (141 : Int))) w2) (
  ∃ k20 : Nat, l0 k20 p4 Aa2 na2 ca2 (na2 : Int) (0 : Int) w2 (fun (w19 : World) => ∀ _ : Fr,
  Q (.returned (.int .i64 (0 : Int))) w19)))
def D : Nat → Option DH := dtab [(7, .simple [.fst 0, .fst 1, .fst 2, .fst 3, .fst 4] [.eff 5])]
def l0LO : LO := ⟨[], [], [(0, [])], []⟩
def l0Tk (k : Nat) : Spec := fun Q σ w =>
  gPtr (σ 7) fun pt7 =>
  gSlice (σ 18) fun At18 nt18 ct18 =>
  gInt .i64 (σ 19) fun xt19 =>
  gInt .i64 (σ 20) fun xt20 =>
  l0 k pt7 At18 nt18 ct18 xt19 xt20 w (fun (w : World) => ∀ d : Fr, Q (.exit 0) (ov d []) w)
def l0T : Spec := fun Q σ w => ∃ k, l0Tk k Q σ w
def l0tb : List (List Nat × Spec) := []
noncomputable def l0b : Code := (subC [0, 0, 1, 0, 1, 1, 1] body).getD .skip
theorem l0_eq (k : Nat) (pt7 : Option Addr) (At18 : Option Addr) (nt18 : Nat) (ct18 : Nat) (xt19 : Int) (xt20 : Int) (Q : PQ) (σ : Fr) (w : World) :
    l0 (k + 1) pt7 At18 nt18 ct18 xt19 xt20 w (fun (w : World) => ∀ d : Fr, Q (.exit 0) (ov d []) w) = codeW Try.prog hT 30 D (tab l0tb) [0, 0, 1, 0, 1, 1, 1] l0b (thenQ (l0Tk k Q) (widen l0LO Q)) (ov σ [(7, .pointer pt7), (18, .slice At18 nt18 ct18), (19, .int .i64 xt19), (20, .int .i64 xt20)]) w := by kernel_rfl
theorem l0_snd : ∀ c, subC [0, 1, 0, 1, 1, 1] body = some c → Snd Try.prog 30 c l0T := by
  refine loop_of (hT := hT) (D := D) (l := l0tb) (b := l0b) (lo := l0LO) (by kernel_rfl) (by
    intro x hx
    simp only [l0tb, List.not_mem_nil] at hx
    ) (by kernel_rfl) (by kernel_rfl) ?_ ?_
  · intro Q σ w h
    unfold l0Tk at h
    obtain ⟨pt7, h7, hn⟩ := gPtr_elim h
    clear h
    have h := hn
    clear hn
    obtain ⟨At18, nt18, ct18, h18, hn⟩ := gSlice_elim h
    clear h
    have h := hn
    clear hn
    obtain ⟨xt19, h19, hn⟩ := gInt_elim h
    clear h
    have h := hn
    clear hn
    obtain ⟨xt20, h20, hn⟩ := gInt_elim h
    clear h
    have h := hn
    clear hn
    exact h
  · intro k Q σ w h
    unfold l0Tk at h
    obtain ⟨pt7, h7, hn⟩ := gPtr_elim h
    clear h
    have h := hn
    clear hn
    obtain ⟨At18, nt18, ct18, h18, hn⟩ := gSlice_elim h
    clear h
    have h := hn
    clear hn
    obtain ⟨xt19, h19, hn⟩ := gInt_elim h
    clear h
    have h := hn
    clear hn
    obtain ⟨xt20, h20, hn⟩ := gInt_elim h
    clear h
    have h := hn
    clear hn
    rw [l0_eq (σ := σ)] at h
    have e : (ov σ [(7, .pointer pt7), (18, .slice At18 nt18 ct18), (19, .int .i64 xt19), (20, .int .i64 xt20)]) = σ := ov_self (by simp [h7, h18, h19, h20])
    rw [e] at h
    exact h
def tb : List (List Nat × Spec) := [([0, 1, 0, 1, 1, 1], l0T)]
theorem wp_eq (aa0 : Addr) (xa1 : Int) (Aa2 : Option Addr) (na2 : Nat) (ca2 : Nat) (w : World) (Q : Ending → World → Prop) :
    wp aa0 xa1 Aa2 na2 ca2 w Q = codeW Try.prog hT 30 D (tab tb) [] body (topQ Try.prog hT 30 [.tmp 6] Q) (argsF [.pointer (some aa0), .int .i64 xa1, .slice Aa2 na2 ca2]) w := by kernel_rfl
theorem ok (aa0 : Addr) (xa1 : Int) (Aa2 : Option Addr) (na2 : Nat) (ca2 : Nat) (w : World) (Q : Ending → World → Prop) (h : wp aa0 xa1 Aa2 na2 ca2 w Q) : Calls Try.prog 19 #[.pointer (some aa0), .int .i64 xa1, .slice Aa2 na2 ca2] w Q := by
  rw [wp_eq] at h
  exact calls_of_codeW (c := body) (rs := [.tmp 6]) Try.func19 (by kernel_rfl) (by kernel_rfl) (by kernel_rfl) (by kernel_rfl) (by kernel_rfl) (tab_snd (by
    intro x hx
    simp only [tb, List.mem_cons, List.not_mem_nil, or_false] at hx
    subst hx
    exact l0_snd)) (by kernel_rfl) h
end f_mvcc_Table_Touch
namespace f_mvcc_Table_Start
/-! (*skein/mvcc.Table).Start: function 20 -/
noncomputable def body : Code := (Try.f20.body).getD .skip
def wp (aa0 : Addr) (xa1 : Int) (w : World) (Q : Ending → World → Prop) : Prop :=
  ldM w (aa0.add 2) fun m1 =>
  Runs Try.prog (Instr.lookup 57 (.map m1) (.int .i64 xa1) false) w fun v3 w2 => ∃ (p4 : Option Addr), v3 = (.pointer p4) ∧ (
  sel p4.isNone (
  Q (.returned (.tuple #[.int .i64 (0 : Int), .int .i64 (141 : Int)])) w2) (
  optB p4 fun a5 =>
  ldI w2 a5 .i64 fun x6 =>
  Q (.returned (.tuple #[.int .i64 x6, .int .i64 (0 : Int)])) w2))
def D : Nat → Option DH := dtab []
def tb : List (List Nat × Spec) := []
theorem wp_eq (aa0 : Addr) (xa1 : Int) (w : World) (Q : Ending → World → Prop) :
    wp aa0 xa1 w Q = codeW Try.prog hT 19 D (tab tb) [] body (topQ Try.prog hT 19 [.tmp 4, .tmp 5] Q) (argsF [.pointer (some aa0), .int .i64 xa1]) w := by kernel_rfl
theorem ok (aa0 : Addr) (xa1 : Int) (w : World) (Q : Ending → World → Prop) (h : wp aa0 xa1 w Q) : Calls Try.prog 20 #[.pointer (some aa0), .int .i64 xa1] w Q := by
  rw [wp_eq] at h
  exact calls_of_codeW (c := body) (rs := [.tmp 4, .tmp 5]) Try.func20 (by kernel_rfl) (by kernel_rfl) (by kernel_rfl) (by kernel_rfl) (by kernel_rfl) (tab_snd (by
    intro x hx
    simp only [tb, List.not_mem_nil] at hx
    )) (by kernel_rfl) h
end f_mvcc_Table_Start
namespace f_mvcc_Table_Commit
/-! (*skein/mvcc.Table).Commit: function 21 -/
noncomputable def body : Code := (Try.f21.body).getD .skip
def l1 : Nat → Addr → Option Addr → World → (World → Prop) → Prop
  | 0, _, _, _, _ => False
  | k + 1, at0, pt47, w, K0 =>
    Runs Try.prog (Instr.next (.pointer pt47) false 0) w fun v25 w24 => ∃ (b26 : Bool) (r26 : List Value), v25 = (.tuple ⟨.bool b26 :: r26⟩) ∧ (
    sel b26 (
    Runs Try.prog (Instr.entry (.pointer pt47)) w24 fun v28 w27 => ∃ (b29_0_0 : Bool) (x29_0_1 : Int) (b29_1 : Bool), v28 = (.tuple #[.agg #[.bool b29_0_0, .int .i64 x29_0_1], .bool b29_1]) ∧ (
    alW w27 (.cells #[.bool false, .int .i64 (0 : Int)] 62) fun B30 w31 =>
    stW w31 (⟨B30, 0, Option.none⟩ : Addr) (.bool b29_0_0) fun w32 =>
    stW w32 ((⟨B30, 0, Option.none⟩ : Addr).add 1) (.int .i64 x29_0_1) fun w33 =>
    drW w33 fun w34 =>
    ldM w34 (at0.add 3) fun m36 =>
    ldB w34 (⟨B30, 0, Option.none⟩ : Addr) fun b37 =>
    ldI w34 ((⟨B30, 0, Option.none⟩ : Addr).add 1) .i64 fun x38 =>
    ldI w34 at0 .i64 fun x39 =>
    Runs Try.prog (Instr.mapUpdate 58 (.map m36) (.agg #[.bool b37, .int .i64 x38]) (.int .i64 x39)) w34 fun _ w40 =>
    l1 k at0 pt47 w40 K0)) (
    K0  w24))
def j0 (at0 : Addr) (pt6 : Option Addr) (xt7 : Int) (w : World) (Kr : Int → Int → World → Prop) : Prop :=
  sel (xt7 != (0 : Int)) (
  Kr (0 : Int) xt7 w) (
  optB pt6 fun a10 =>
  ldM w (a10.add 1) fun m11 =>
  Runs Try.prog (Builtin.len_ #[79] 3 #[.map m11]) w fun v13 w12 => ∃ (x14 : Int), v13 = (.int .i64 x14) ∧ (
  sel (x14 == (0 : Int)) (
  optB pt6 fun a15 =>
  ldI w12 a15 .i64 fun x16 =>
  Kr x16 (0 : Int) w12) (
  ldI w12 at0 .i64 fun x17 =>
  stW w12 at0 (.int .i64 (IntKind.i64.wrap (x17 + (1 : Int)))) fun w18 =>
  optB pt6 fun a19 =>
  ldM w18 (a19.add 1) fun m20 =>
  Runs Try.prog (Instr.range 79 (.map m20)) w18 fun v22 w21 => ∃ (p23 : Option Addr), v22 = (.pointer p23) ∧ (
  ∃ k45 : Nat, l1 k45 at0 p23 w21 (fun (w41 : World) => ∀ _ : Fr,
  Calls Try.prog 34 #[.pointer (some at0)] w41 fun e42 w43 => e42 = .returned (.tuple #[]) ∧ (
  ldI w43 at0 .i64 fun x44 =>
  Kr x44 (0 : Int) w43))))))
def wp (aa0 : Addr) (xa1 : Int) (w : World) (Q : Ending → World → Prop) : Prop :=
  ldM w (aa0.add 2) fun m1 =>
  Runs Try.prog (Instr.lookup 57 (.map m1) (.int .i64 xa1) false) w fun v3 w2 => ∃ (p4 : Option Addr), v3 = (.pointer p4) ∧ (
  Calls Try.prog 24 #[.pointer (some aa0), .int .i64 xa1] w2 fun e5 w6 => ∃ (x7 : Int), e5 = .returned (.int .i64 x7) ∧ (
  sel (!p4.isNone) (
  Calls Try.prog 33 #[.pointer (some aa0), .int .i64 xa1] w6 fun e8 w9 => e8 = .returned (.tuple #[]) ∧ (
  j0 aa0 p4 x7 w9 (fun (x46 : Int) (x47 : Int) (w48 : World) => ∀ _ : Fr,
  Q (.returned (.tuple #[.int .i64 x46, .int .i64 x47])) w48))) (
  j0 aa0 p4 x7 w6 (fun (x49 : Int) (x50 : Int) (w51 : World) => ∀ _ : Fr,
  Q (.returned (.tuple #[.int .i64 x49, .int .i64 x50])) w51))))
def D : Nat → Option DH := dtab [(13, .simple [.fst 0, .fst 1, .fst 2, .fst 3, .fst 4, .fst 5, .fst 6, .fst 7, .fst 8] [.eff 9])]
def hTe : Hint := fun t => bif Nat.beq t 1000050 then .tup [(.agg [.bool, (.int .i64)]), (.sc .bool)] else hT t
def l1LO : LO := ⟨[], [], [(0, [0])], []⟩
def l1Tk (k : Nat) : Spec := fun Q σ w =>
  gAd (σ 0) fun at0 =>
  gPtr (σ 47) fun pt47 =>
  l1 k at0 pt47 w (fun (w : World) => ∀ d : Fr, Q (.exit 0) (ov d [(0, .pointer (some at0))]) w)
def l1T : Spec := fun Q σ w => ∃ k, l1Tk k Q σ w
def l1tb : List (List Nat × Spec) := []
noncomputable def l1b : Code := (subC [0, 0, 1, 0, 1, 1, 1, 1, 1, 1, 1] body).getD .skip
theorem l1_eq (k : Nat) (at0 : Addr) (pt47 : Option Addr) (Q : PQ) (σ : Fr) (w : World) :
    l1 (k + 1) at0 pt47 w (fun (w : World) => ∀ d : Fr, Q (.exit 0) (ov d [(0, .pointer (some at0))]) w) = codeW Try.prog hTe 67 D (tab l1tb) [0, 0, 1, 0, 1, 1, 1, 1, 1, 1, 1] l1b (thenQ (l1Tk k Q) (widen l1LO Q)) (ov σ [(0, .pointer (some at0)), (47, .pointer pt47)]) w := by kernel_rfl
theorem l1_snd : ∀ c, subC [0, 1, 0, 1, 1, 1, 1, 1, 1, 1] body = some c → Snd Try.prog 67 c l1T := by
  refine loop_of (hT := hTe) (D := D) (l := l1tb) (b := l1b) (lo := l1LO) (by kernel_rfl) (by
    intro x hx
    simp only [l1tb, List.not_mem_nil] at hx
    ) (by kernel_rfl) (by kernel_rfl) ?_ ?_
  · intro Q σ w h
    unfold l1Tk at h
    obtain ⟨at0, h0, hn⟩ := gAd_elim h
    clear h
    have h := hn
    clear hn
    obtain ⟨pt47, h47, hn⟩ := gPtr_elim h
    clear h
    have h := hn
    clear hn
    exact h
  · intro k Q σ w h
    unfold l1Tk at h
    obtain ⟨at0, h0, hn⟩ := gAd_elim h
    clear h
    have h := hn
    clear hn
    obtain ⟨pt47, h47, hn⟩ := gPtr_elim h
    clear h
    have h := hn
    clear hn
    rw [l1_eq (σ := σ)] at h
    have e : (ov σ [(0, .pointer (some at0)), (47, .pointer pt47)]) = σ := ov_self (by simp [h0, h47])
    rw [e] at h
    exact h
def j0LO : LO := ⟨[], [4, 5], [], []⟩
def j0T : Spec := fun Q σ w =>
  gAd (σ 0) fun at0 =>
  gPtr (σ 6) fun pt6 =>
  gInt .i64 (σ 7) fun xt7 =>
  j0 at0 pt6 xt7 w (fun (xq4 : Int) (xq5 : Int) (w : World) => ∀ d : Fr, Q .ret (ov d [(4, .int .i64 xq4), (5, .int .i64 xq5)]) w)
def j0tb : List (List Nat × Spec) := [([0, 1, 0, 1, 1, 1, 1, 1, 1, 1], l1T)]
noncomputable def j0b : Code := (subC [1, 1, 1, 1] body).getD .skip
theorem j0_eq (at0 : Addr) (pt6 : Option Addr) (xt7 : Int) (Q : PQ) (σ : Fr) (w : World) :
    j0 at0 pt6 xt7 w (fun (xq4 : Int) (xq5 : Int) (w : World) => ∀ d : Fr, Q .ret (ov d [(4, .int .i64 xq4), (5, .int .i64 xq5)]) w) = codeW Try.prog hTe 67 D (tab j0tb) [1, 1, 1, 1] j0b (widen j0LO Q) (ov σ [(0, .pointer (some at0)), (6, .pointer pt6), (7, .int .i64 xt7)]) w := by kernel_rfl
theorem j0_snd : ∀ c, subC [1, 1, 1, 1] body = some c → Snd Try.prog 67 c j0T := by
  refine cut_of (hT := hTe) (D := D) (l := j0tb) (b := j0b) (lo := j0LO) (by kernel_rfl) (by
    intro x hx
    simp only [j0tb, List.mem_cons, List.not_mem_nil, or_false] at hx
    subst hx
    exact l1_snd) (by kernel_rfl) (by kernel_rfl) ?_
  intro Q σ w h
  unfold j0T at h
  obtain ⟨at0, h0, hn⟩ := gAd_elim h
  clear h
  have h := hn
  clear hn
  obtain ⟨pt6, h6, hn⟩ := gPtr_elim h
  clear h
  have h := hn
  clear hn
  obtain ⟨xt7, h7, hn⟩ := gInt_elim h
  clear h
  have h := hn
  clear hn
  rw [j0_eq (σ := σ)] at h
  have e : (ov σ [(0, .pointer (some at0)), (6, .pointer pt6), (7, .int .i64 xt7)]) = σ := ov_self (by simp [h0, h6, h7])
  rw [e] at h
  exact h
def tb : List (List Nat × Spec) := [([0, 1, 0, 1, 1, 1, 1, 1, 1, 1], l1T), ([1, 1, 1, 1], j0T)]
theorem wp_eq (aa0 : Addr) (xa1 : Int) (w : World) (Q : Ending → World → Prop) :
    wp aa0 xa1 w Q = codeW Try.prog hTe 67 D (tab tb) [] body (topQ Try.prog hTe 67 [.tmp 4, .tmp 5] Q) (argsF [.pointer (some aa0), .int .i64 xa1]) w := by kernel_rfl
theorem ok (aa0 : Addr) (xa1 : Int) (w : World) (Q : Ending → World → Prop) (h : wp aa0 xa1 w Q) : Calls Try.prog 21 #[.pointer (some aa0), .int .i64 xa1] w Q := by
  rw [wp_eq] at h
  exact calls_of_codeW (c := body) (rs := [.tmp 4, .tmp 5]) Try.func21 (by kernel_rfl) (by kernel_rfl) (by kernel_rfl) (by kernel_rfl) (by kernel_rfl) (tab_snd (by
    intro x hx
    simp only [tb, List.mem_cons, List.not_mem_nil, or_false] at hx
    rcases hx with rfl | rfl
    · exact l1_snd
    · exact j0_snd)) (by kernel_rfl) h
end f_mvcc_Table_Commit
namespace f_mvcc_Table_Abort
/-! (*skein/mvcc.Table).Abort: function 22 -/
noncomputable def body : Code := (Try.f22.body).getD .skip
def wp (aa0 : Addr) (xa1 : Int) (w : World) (Q : Ending → World → Prop) : Prop :=
  ldM w (aa0.add 2) fun m1 =>
  Runs Try.prog (Instr.lookup 57 (.map m1) (.int .i64 xa1) false) w fun v3 w2 => ∃ (p4 : Option Addr), v3 = (.pointer p4) ∧ (
  sel p4.isNone (
  Q (.returned (.int .i64 (141 : Int))) w2) (
  Calls Try.prog 33 #[.pointer (some aa0), .int .i64 xa1] w2 fun e5 w6 => e5 = .returned (.tuple #[]) ∧ (
  Q (.returned (.int .i64 (0 : Int))) w6)))
def D : Nat → Option DH := dtab []
def tb : List (List Nat × Spec) := []
theorem wp_eq (aa0 : Addr) (xa1 : Int) (w : World) (Q : Ending → World → Prop) :
    wp aa0 xa1 w Q = codeW Try.prog hT 15 D (tab tb) [] body (topQ Try.prog hT 15 [.tmp 4] Q) (argsF [.pointer (some aa0), .int .i64 xa1]) w := by kernel_rfl
theorem ok (aa0 : Addr) (xa1 : Int) (w : World) (Q : Ending → World → Prop) (h : wp aa0 xa1 w Q) : Calls Try.prog 22 #[.pointer (some aa0), .int .i64 xa1] w Q := by
  rw [wp_eq] at h
  exact calls_of_codeW (c := body) (rs := [.tmp 4]) Try.func22 (by kernel_rfl) (by kernel_rfl) (by kernel_rfl) (by kernel_rfl) (by kernel_rfl) (tab_snd (by
    intro x hx
    simp only [tb, List.not_mem_nil] at hx
    )) (by kernel_rfl) h
end f_mvcc_Table_Abort
namespace f_mvcc_Table_Try
/-! (*skein/mvcc.Table).Try: function 24 -/
noncomputable def body : Code := (Try.f24.body).getD .skip
def l0 : Nat → Addr → Option Addr → Option Addr → World → (World → Prop) → (Int → World → Prop) → Prop
  | 0, _, _, _, _, _, _ => False
  | k + 1, at0, pt5, pt21, w, K0, Kr =>
    Runs Try.prog (Instr.next (.pointer pt21) false 0) w fun v11 w10 => ∃ (b12 : Bool) (r12 : List Value), v11 = (.tuple ⟨.bool b12 :: r12⟩) ∧ (
    sel b12 (
    Runs Try.prog (Instr.entry (.pointer pt21)) w10 fun v14 w13 => ∃ (b15_0_0 : Bool) (x15_0_1 : Int) (b15_1 : Bool), v14 = (.tuple #[.agg #[.bool b15_0_0, .int .i64 x15_0_1], .bool b15_1]) ∧ (
    alW w13 (.cells #[.bool false, .int .i64 (0 : Int)] 62) fun B16 w17 =>
    stW w17 (⟨B16, 0, Option.none⟩ : Addr) (.bool b15_0_0) fun w18 =>
    stW w18 ((⟨B16, 0, Option.none⟩ : Addr).add 1) (.int .i64 x15_0_1) fun w19 =>
    drW w19 fun w20 =>
    ldM w20 (at0.add 3) fun m22 =>
    ldB w20 (⟨B16, 0, Option.none⟩ : Addr) fun b23 =>
    ldI w20 ((⟨B16, 0, Option.none⟩ : Addr).add 1) .i64 fun x24 =>
    Runs Try.prog (Instr.lookup 58 (.map m22) (.agg #[.bool b23, .int .i64 x24]) true) w20 fun v26 w25 => ∃ (x27_0 : Int) (b27_1 : Bool), v26 = (.tuple #[.int .i64 x27_0, .bool b27_1]) ∧ (
    sel b27_1 (
    optB pt5 fun a28 =>
    ldI w25 a28 .i64 fun x29 =>
    sel (decide (x27_0 > x29)) (
    Kr (140 : Int) w25) (
    l0 k at0 pt5 pt21 w25 K0 Kr)) (
    l0 k at0 pt5 pt21 w25 K0 Kr)))) (
    K0  w10))
def wp (aa0 : Addr) (xa1 : Int) (w : World) (Q : Ending → World → Prop) : Prop :=
  ldM w (aa0.add 2) fun m1 =>
  Runs Try.prog (Instr.lookup 57 (.map m1) (.int .i64 xa1) false) w fun v3 w2 => ∃ (p4 : Option Addr), v3 = (.pointer p4) ∧ (
  sel p4.isNone (
  Q (.returned (.int .i64 (141 : Int))) w2) (
  optB p4 fun a5 =>
  ldM w2 (a5.add 1) fun m6 =>
  Runs Try.prog (Instr.range 79 (.map m6)) w2 fun v8 w7 => ∃ (p9 : Option Addr), v8 = (.pointer p9) ∧ (
  ∃ k39 : Nat, l0 k39 aa0 p4 p9 w7 (fun (w30 : World) => ∀ _ : Fr,
  optB p4 fun a31 =>
  ldM w30 (a31.add 1) fun m32 =>
  Runs Try.prog (Builtin.len_ #[79] 3 #[.map m32]) w30 fun v34 w33 => ∃ (x35 : Int), v34 = (.int .i64 x35) ∧ (
  sel (decide (x35 > (0 : Int))) (
  ldI w33 aa0 .i64 fun x36 =>
  sel (decide (x36 ≥ (1099511627776 : Int))) (
  Q (.returned (.int .i64 (4 : Int))) w33) (
  Q (.returned (.int .i64 (0 : Int))) w33)) (
  Q (.returned (.int .i64 (0 : Int))) w33))) (fun (x37 : Int) (w38 : World) => ∀ _ : Fr,
  Q (.returned (.int .i64 x37)) w38))))
def D : Nat → Option DH := dtab [(7, .simple [.fst 0, .fst 1, .fst 2, .fst 3, .fst 4] [.eff 5, .fst 6, .fst 7, .fst 8, .fst 9, .fst 10])]
def hTe : Hint := fun t => bif Nat.beq t 1000024 then .tup [(.agg [.bool, (.int .i64)]), (.sc .bool)] else hT t
def l0LO : LO := ⟨[], [4], [(0, [0, 5])], []⟩
def l0Tk (k : Nat) : Spec := fun Q σ w =>
  gAd (σ 0) fun at0 =>
  gPtr (σ 5) fun pt5 =>
  gPtr (σ 21) fun pt21 =>
  l0 k at0 pt5 pt21 w (fun (w : World) => ∀ d : Fr, Q (.exit 0) (ov d [(0, .pointer (some at0)), (5, .pointer pt5)]) w) (fun (xq4 : Int) (w : World) => ∀ d : Fr, Q .ret (ov d [(4, .int .i64 xq4)]) w)
def l0T : Spec := fun Q σ w => ∃ k, l0Tk k Q σ w
def l0tb : List (List Nat × Spec) := []
noncomputable def l0b : Code := (subC [0, 0, 1, 0, 1, 1, 1] body).getD .skip
theorem l0_eq (k : Nat) (at0 : Addr) (pt5 : Option Addr) (pt21 : Option Addr) (Q : PQ) (σ : Fr) (w : World) :
    l0 (k + 1) at0 pt5 pt21 w (fun (w : World) => ∀ d : Fr, Q (.exit 0) (ov d [(0, .pointer (some at0)), (5, .pointer pt5)]) w) (fun (xq4 : Int) (w : World) => ∀ d : Fr, Q .ret (ov d [(4, .int .i64 xq4)]) w) = codeW Try.prog hTe 57 D (tab l0tb) [0, 0, 1, 0, 1, 1, 1] l0b (thenQ (l0Tk k Q) (widen l0LO Q)) (ov σ [(0, .pointer (some at0)), (5, .pointer pt5), (21, .pointer pt21)]) w := by kernel_rfl
theorem l0_snd : ∀ c, subC [0, 1, 0, 1, 1, 1] body = some c → Snd Try.prog 57 c l0T := by
  refine loop_of (hT := hTe) (D := D) (l := l0tb) (b := l0b) (lo := l0LO) (by kernel_rfl) (by
    intro x hx
    simp only [l0tb, List.not_mem_nil] at hx
    ) (by kernel_rfl) (by kernel_rfl) ?_ ?_
  · intro Q σ w h
    unfold l0Tk at h
    obtain ⟨at0, h0, hn⟩ := gAd_elim h
    clear h
    have h := hn
    clear hn
    obtain ⟨pt5, h5, hn⟩ := gPtr_elim h
    clear h
    have h := hn
    clear hn
    obtain ⟨pt21, h21, hn⟩ := gPtr_elim h
    clear h
    have h := hn
    clear hn
    exact h
  · intro k Q σ w h
    unfold l0Tk at h
    obtain ⟨at0, h0, hn⟩ := gAd_elim h
    clear h
    have h := hn
    clear hn
    obtain ⟨pt5, h5, hn⟩ := gPtr_elim h
    clear h
    have h := hn
    clear hn
    obtain ⟨pt21, h21, hn⟩ := gPtr_elim h
    clear h
    have h := hn
    clear hn
    rw [l0_eq (σ := σ)] at h
    have e : (ov σ [(0, .pointer (some at0)), (5, .pointer pt5), (21, .pointer pt21)]) = σ := ov_self (by simp [h0, h5, h21])
    rw [e] at h
    exact h
def tb : List (List Nat × Spec) := [([0, 1, 0, 1, 1, 1], l0T)]
theorem wp_eq (aa0 : Addr) (xa1 : Int) (w : World) (Q : Ending → World → Prop) :
    wp aa0 xa1 w Q = codeW Try.prog hTe 57 D (tab tb) [] body (topQ Try.prog hTe 57 [.tmp 4] Q) (argsF [.pointer (some aa0), .int .i64 xa1]) w := by kernel_rfl
theorem ok (aa0 : Addr) (xa1 : Int) (w : World) (Q : Ending → World → Prop) (h : wp aa0 xa1 w Q) : Calls Try.prog 24 #[.pointer (some aa0), .int .i64 xa1] w Q := by
  rw [wp_eq] at h
  exact calls_of_codeW (c := body) (rs := [.tmp 4]) Try.func24 (by kernel_rfl) (by kernel_rfl) (by kernel_rfl) (by kernel_rfl) (by kernel_rfl) (tab_snd (by
    intro x hx
    simp only [tb, List.mem_cons, List.not_mem_nil, or_false] at hx
    subst hx
    exact l0_snd)) (by kernel_rfl) h
end f_mvcc_Table_Try
namespace f_mvcc_txn
/-! maps.Keys[map[int]*skein/mvcc.txn,int,*skein/mvcc.txn]: function 32 -/
noncomputable def body : Code := (Try.f32.body).getD .skip
def wp (ma0 : Option Nat) (w : World) (Q : Ending → World → Prop) : Prop :=
  alW w (.cells #[.map ma0] 57) fun B1 w2 =>
  Q (.returned (.func (.func 39) #[] #[.pointer (some (⟨B1, 0, Option.none⟩ : Addr))])) w2
def D : Nat → Option DH := dtab []
def tb : List (List Nat × Spec) := []
theorem wp_eq (ma0 : Option Nat) (w : World) (Q : Ending → World → Prop) :
    wp ma0 w Q = codeW Try.prog hT 4 D (tab tb) [] body (topQ Try.prog hT 4 [.tmp 2] Q) (argsF [.map ma0]) w := by kernel_rfl
theorem ok (ma0 : Option Nat) (w : World) (Q : Ending → World → Prop) (h : wp ma0 w Q) : Calls Try.prog 32 #[.map ma0] w Q := by
  rw [wp_eq] at h
  exact calls_of_codeW (c := body) (rs := [.tmp 2]) Try.func32 (by kernel_rfl) (by kernel_rfl) (by kernel_rfl) (by kernel_rfl) (by kernel_rfl) (tab_snd (by
    intro x hx
    simp only [tb, List.not_mem_nil] at hx
    )) (by kernel_rfl) h
end f_mvcc_txn
namespace f_mvcc_Table_end
/-! (*skein/mvcc.Table).end: function 33 -/
noncomputable def body : Code := (Try.f33.body).getD .skip
def wp (aa0 : Addr) (xa1 : Int) (w : World) (Q : Ending → World → Prop) : Prop :=
  ldM w (aa0.add 2) fun m1 =>
  Runs Try.prog (Builtin.delete_ #[57, 3] 0 #[.map m1, .int .i64 xa1]) w fun v3 w2 => v3 = (.tuple #[]) ∧ (
  Calls Try.prog 34 #[.pointer (some aa0)] w2 fun e4 w5 => e4 = .returned (.tuple #[]) ∧ (
  Q (.returned (.tuple #[])) w5))
def D : Nat → Option DH := dtab []
def tb : List (List Nat × Spec) := []
theorem wp_eq (aa0 : Addr) (xa1 : Int) (w : World) (Q : Ending → World → Prop) :
    wp aa0 xa1 w Q = codeW Try.prog hT 11 D (tab tb) [] body (topQ Try.prog hT 11 [] Q) (argsF [.pointer (some aa0), .int .i64 xa1]) w := by kernel_rfl
theorem ok (aa0 : Addr) (xa1 : Int) (w : World) (Q : Ending → World → Prop) (h : wp aa0 xa1 w Q) : Calls Try.prog 33 #[.pointer (some aa0), .int .i64 xa1] w Q := by
  rw [wp_eq] at h
  exact calls_of_codeW (c := body) (rs := []) Try.func33 (by kernel_rfl) (by kernel_rfl) (by kernel_rfl) (by kernel_rfl) (by kernel_rfl) (tab_snd (by
    intro x hx
    simp only [tb, List.not_mem_nil] at hx
    )) (by kernel_rfl) h
end f_mvcc_Table_end
namespace f_mvcc_Table_forget
/-! (*skein/mvcc.Table).forget: function 34 -/
noncomputable def body : Code := (Try.f34.body).getD .skip
def wp (aa0 : Addr) (w : World) (Q : Ending → World → Prop) : Prop :=
  Calls Try.prog 14 #[.pointer (some aa0)] w fun e1 w2 => ∃ (x3 : Int), e1 = .returned (.int .i64 x3) ∧ (
  alW w2 (.cells #[.int .i64 (0 : Int)] 2) fun B4 w5 =>
  stW w5 (⟨B4, 0, Option.none⟩ : Addr) (.int .i64 x3) fun w6 =>
  ldM w6 (aa0.add 3) fun m7 =>
  Calls Try.prog 40 #[.map m7, .func (.func 41) #[] #[.pointer (some (⟨B4, 0, Option.none⟩ : Addr))]] w6 fun e8 w9 => e8 = .returned (.tuple #[]) ∧ (
  Q (.returned (.tuple #[])) w9))
def D : Nat → Option DH := dtab []
def tb : List (List Nat × Spec) := []
theorem wp_eq (aa0 : Addr) (w : World) (Q : Ending → World → Prop) :
    wp aa0 w Q = codeW Try.prog hT 11 D (tab tb) [] body (topQ Try.prog hT 11 [] Q) (argsF [.pointer (some aa0)]) w := by kernel_rfl
theorem ok (aa0 : Addr) (w : World) (Q : Ending → World → Prop) (h : wp aa0 w Q) : Calls Try.prog 34 #[.pointer (some aa0)] w Q := by
  rw [wp_eq] at h
  exact calls_of_codeW (c := body) (rs := []) Try.func34 (by kernel_rfl) (by kernel_rfl) (by kernel_rfl) (by kernel_rfl) (by kernel_rfl) (tab_snd (by
    intro x hx
    simp only [tb, List.not_mem_nil] at hx
    )) (by kernel_rfl) h
end f_mvcc_Table_forget
namespace f_api_Ref_int64
/-! maps.DeleteFunc[map[skein/api.Ref]int64,skein/api.Ref,int64]: function 40 -/
noncomputable def body : Code := (Try.f40.body).getD .skip
def l0 : Nat → Option Nat → Addr → Option Addr → World → (World → Prop) → Prop
  | 0, _, _, _, _, _ => False
  | k + 1, mt0, at1_0, pt7, w, K0 =>
    Runs Try.prog (Instr.next (.pointer pt7) false 0) w fun v5 w4 => ∃ (b6 : Bool) (r6 : List Value), v5 = (.tuple ⟨.bool b6 :: r6⟩) ∧ (
    sel b6 (
    Runs Try.prog (Instr.entry (.pointer pt7)) w4 fun v8 w7 => ∃ (b9_0_0 : Bool) (x9_0_1 : Int) (x9_1 : Int), v8 = (.tuple #[.agg #[.bool b9_0_0, .int .i64 x9_0_1], .int .i64 x9_1]) ∧ (
    alW w7 (.cells #[.bool false, .int .i64 (0 : Int)] 62) fun B10 w11 =>
    stW w11 (⟨B10, 0, Option.none⟩ : Addr) (.bool b9_0_0) fun w12 =>
    stW w12 ((⟨B10, 0, Option.none⟩ : Addr).add 1) (.int .i64 x9_0_1) fun w13 =>
    ldB w13 (⟨B10, 0, Option.none⟩ : Addr) fun b14 =>
    ldI w13 ((⟨B10, 0, Option.none⟩ : Addr).add 1) .i64 fun x15 =>
    Calls Try.prog 41 #[.agg #[.bool b14, .int .i64 x15], .int .i64 x9_1, .pointer (some at1_0)] w13 fun e16 w17 => ∃ (b18 : Bool), e16 = .returned (.bool b18) ∧ (
    sel b18 (
    ldB w17 (⟨B10, 0, Option.none⟩ : Addr) fun b19 =>
    ldI w17 ((⟨B10, 0, Option.none⟩ : Addr).add 1) .i64 fun x20 =>
    Runs Try.prog (Builtin.delete_ #[58, 62] 0 #[.map mt0, .agg #[.bool b19, .int .i64 x20]]) w17 fun v22 w21 => v22 = (.tuple #[]) ∧ (
    l0 k mt0 at1_0 pt7 w21 K0)) (
    l0 k mt0 at1_0 pt7 w17 K0)))) (
    K0  w4))
def wp (ma0 : Option Nat) (aa1_0 : Addr) (w : World) (Q : Ending → World → Prop) : Prop :=
  Runs Try.prog (Instr.range 58 (.map ma0)) w fun v2 w1 => ∃ (p3 : Option Addr), v2 = (.pointer p3) ∧ (
  ∃ k24 : Nat, l0 k24 ma0 aa1_0 p3 w1 (fun (w23 : World) => ∀ _ : Fr,
  Q (.returned (.tuple #[])) w23))
def D : Nat → Option DH := dtab []
def hTe : Hint := fun t => bif Nat.beq t 1000010 then .tup [(.agg [.bool, (.int .i64)]), (.sc (.int .i64))] else hT t
def l0LO : LO := ⟨[], [], [(0, [])], []⟩
def l0Tk (k : Nat) : Spec := fun Q σ w =>
  gMap (σ 0) fun mt0 =>
  gFnC (σ 1) 41 fun l25 =>
  gCons l25 fun h27 l26 =>
  gAd h27 fun at1_0 =>
  gNil l26 <|
  gPtr (σ 7) fun pt7 =>
  l0 k mt0 at1_0 pt7 w (fun (w : World) => ∀ d : Fr, Q (.exit 0) (ov d []) w)
def l0T : Spec := fun Q σ w => ∃ k, l0Tk k Q σ w
def l0tb : List (List Nat × Spec) := []
noncomputable def l0b : Code := (subC [0, 0, 1] body).getD .skip
theorem l0_eq (k : Nat) (mt0 : Option Nat) (at1_0 : Addr) (pt7 : Option Addr) (Q : PQ) (σ : Fr) (w : World) :
    l0 (k + 1) mt0 at1_0 pt7 w (fun (w : World) => ∀ d : Fr, Q (.exit 0) (ov d []) w) = codeW Try.prog hTe 19 D (tab l0tb) [0, 0, 1] l0b (thenQ (l0Tk k Q) (widen l0LO Q)) (ov σ [(0, .map mt0), (1, .func (.func 41) #[] #[.pointer (some at1_0)]), (7, .pointer pt7)]) w := by kernel_rfl
theorem l0_snd : ∀ c, subC [0, 1] body = some c → Snd Try.prog 19 c l0T := by
  refine loop_of (hT := hTe) (D := D) (l := l0tb) (b := l0b) (lo := l0LO) (by kernel_rfl) (by
    intro x hx
    simp only [l0tb, List.not_mem_nil] at hx
    ) (by kernel_rfl) (by kernel_rfl) ?_ ?_
  · intro Q σ w h
    unfold l0Tk at h
    obtain ⟨mt0, h0, hn⟩ := gMap_elim h
    clear h
    have h := hn
    clear hn
    obtain ⟨lh1, h1, hn⟩ := gFnC_elim h
    clear h
    have h := hn
    clear hn
    obtain ⟨hdh1_0, tlh1_0, eh1_0, hn⟩ := gCons_elim h
    clear h
    have h := hn
    clear hn
    subst eh1_0
    obtain ⟨at1_0, fh1_0, hn⟩ := gAd_elim h
    clear h
    have h := hn
    clear hn
    subst fh1_0
    obtain ⟨eh1, hn⟩ := gNil_elim h
    clear h
    have h := hn
    clear hn
    subst eh1
    obtain ⟨pt7, h7, hn⟩ := gPtr_elim h
    clear h
    have h := hn
    clear hn
    exact h
  · intro k Q σ w h
    unfold l0Tk at h
    obtain ⟨mt0, h0, hn⟩ := gMap_elim h
    clear h
    have h := hn
    clear hn
    obtain ⟨lh1, h1, hn⟩ := gFnC_elim h
    clear h
    have h := hn
    clear hn
    obtain ⟨hdh1_0, tlh1_0, eh1_0, hn⟩ := gCons_elim h
    clear h
    have h := hn
    clear hn
    subst eh1_0
    obtain ⟨at1_0, fh1_0, hn⟩ := gAd_elim h
    clear h
    have h := hn
    clear hn
    subst fh1_0
    obtain ⟨eh1, hn⟩ := gNil_elim h
    clear h
    have h := hn
    clear hn
    subst eh1
    obtain ⟨pt7, h7, hn⟩ := gPtr_elim h
    clear h
    have h := hn
    clear hn
    rw [l0_eq (σ := σ)] at h
    have e : (ov σ [(0, .map mt0), (1, .func (.func 41) #[] #[.pointer (some at1_0)]), (7, .pointer pt7)]) = σ := ov_self (by simp [h0, h1, h7])
    rw [e] at h
    exact h
def tb : List (List Nat × Spec) := [([0, 1], l0T)]
theorem wp_eq (ma0 : Option Nat) (aa1_0 : Addr) (w : World) (Q : Ending → World → Prop) :
    wp ma0 aa1_0 w Q = codeW Try.prog hTe 19 D (tab tb) [] body (topQ Try.prog hTe 19 [] Q) (argsF [.map ma0, .func (.func 41) #[] #[.pointer (some aa1_0)]]) w := by kernel_rfl
theorem ok (ma0 : Option Nat) (aa1_0 : Addr) (w : World) (Q : Ending → World → Prop) (h : wp ma0 aa1_0 w Q) : Calls Try.prog 40 #[.map ma0, .func (.func 41) #[] #[.pointer (some aa1_0)]] w Q := by
  rw [wp_eq] at h
  exact calls_of_codeW (c := body) (rs := []) Try.func40 (by kernel_rfl) (by kernel_rfl) (by kernel_rfl) (by kernel_rfl) (by kernel_rfl) (tab_snd (by
    intro x hx
    simp only [tb, List.mem_cons, List.not_mem_nil, or_false] at hx
    subst hx
    exact l0_snd)) (by kernel_rfl) h
end f_api_Ref_int64
namespace f_mvcc_Table_forget_1
/-! (*skein/mvcc.Table).forget$1: function 41 -/
noncomputable def body : Code := (Try.f41.body).getD .skip
def wp (ba0_0 : Bool) (xa0_1 : Int) (xa1 : Int) (ac0 : Addr) (w : World) (Q : Ending → World → Prop) : Prop :=
  alW w (.cells #[.bool ba0_0, .int .i64 xa0_1] 62) fun B1 w2 =>
  ldI w2 ac0 .i64 fun x3 =>
  Q (.returned (.bool (decide (xa1 ≤ x3)))) w2
def D : Nat → Option DH := dtab []
def tb : List (List Nat × Spec) := []
theorem wp_eq (ba0_0 : Bool) (xa0_1 : Int) (xa1 : Int) (ac0 : Addr) (w : World) (Q : Ending → World → Prop) :
    wp ba0_0 xa0_1 xa1 ac0 w Q = codeW Try.prog hT 9 D (tab tb) [] body (topQ Try.prog hT 9 [.tmp 5] Q) (argsF [.agg #[.bool ba0_0, .int .i64 xa0_1], .int .i64 xa1, .pointer (some ac0)]) w := by cases ba0_0 <;> kernel_rfl
theorem ok (ba0_0 : Bool) (xa0_1 : Int) (xa1 : Int) (ac0 : Addr) (w : World) (Q : Ending → World → Prop) (h : wp ba0_0 xa0_1 xa1 ac0 w Q) : Calls Try.prog 41 #[.agg #[.bool ba0_0, .int .i64 xa0_1], .int .i64 xa1, .pointer (some ac0)] w Q := by
  rw [wp_eq] at h
  exact calls_of_codeW (c := body) (rs := [.tmp 5]) Try.func41 (by kernel_rfl) (by kernel_rfl) (by kernel_rfl) (by kernel_rfl) (by kernel_rfl) (tab_snd (by
    intro x hx
    simp only [tb, List.not_mem_nil] at hx
    )) (by kernel_rfl) h
end f_mvcc_Table_forget_1
end Go.Proofs.Ytbfcjnbjhpfdfaa.Rd
