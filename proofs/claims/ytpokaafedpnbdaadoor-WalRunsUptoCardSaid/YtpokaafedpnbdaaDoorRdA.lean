/- The printed readings of some functions: each function's code reckoned by the kernel to its predicate transformer. -/
import Derived.Test.YtpokaafedpnbdaaDoorHint
namespace Go.Proofs.YtpokaafedpnbdaaDoor.Rd
open Go.Dn
set_option maxRecDepth 100000
set_option linter.unusedVariables false
namespace f_disk_Disk_Plan
/-! (*skein/disk.Disk).Plan: function 14 -/
noncomputable def body : Code := (Tryd.f14.body).getD .skip
def wp (aa0 : Addr) (Aa1 : Option Addr) (na1 : Nat) (ca1 : Nat) (w : World) (Q : Ending → World → Prop) : Prop :=
  Calls Tryd.prog 37 #[.slice Aa1 na1 ca1] w fun e1 w2 => ∃ (A3 : Option Addr) (n3 : Nat) (c3 : Nat), e1 = .returned (.slice A3 n3 c3) ∧ (
  stW w2 (aa0.add 2) (.slice A3 n3 c3) fun w4 =>
  Q (.returned (.tuple #[])) w4)
def D : Nat → Option DH := dtab []
def tb : List (List Nat × Spec) := []
theorem wp_eq (aa0 : Addr) (Aa1 : Option Addr) (na1 : Nat) (ca1 : Nat) (w : World) (Q : Ending → World → Prop) :
    wp aa0 Aa1 na1 ca1 w Q = codeW Tryd.prog hT 9 D (tab tb) [] body (topQ Tryd.prog hT 9 [] Q) (argsF [.pointer (some aa0), .slice Aa1 na1 ca1]) w := by kernel_rfl
theorem ok (aa0 : Addr) (Aa1 : Option Addr) (na1 : Nat) (ca1 : Nat) (w : World) (Q : Ending → World → Prop) (h : wp aa0 Aa1 na1 ca1 w Q) : Calls Tryd.prog 14 #[.pointer (some aa0), .slice Aa1 na1 ca1] w Q := by
  rw [wp_eq] at h
  exact calls_of_codeW (c := body) (rs := []) Tryd.func14 (by kernel_rfl) (by kernel_rfl) (by kernel_rfl) (by kernel_rfl) (by kernel_rfl) (tab_snd (by
    intro x hx
    simp only [tb, List.not_mem_nil] at hx
    )) (by kernel_rfl) h
end f_disk_Disk_Plan
namespace f_disk_Disk_Steps
/-! (*skein/disk.Disk).Steps: function 16 -/
noncomputable def body : Code := (Tryd.f16.body).getD .skip
def wp (aa0 : Addr) (w : World) (Q : Ending → World → Prop) : Prop :=
  ldI w (aa0.add 3) .i64 fun x1 =>
  Q (.returned (.int .i64 x1)) w
def D : Nat → Option DH := dtab []
def tb : List (List Nat × Spec) := []
theorem wp_eq (aa0 : Addr) (w : World) (Q : Ending → World → Prop) :
    wp aa0 w Q = codeW Tryd.prog hT 7 D (tab tb) [] body (topQ Tryd.prog hT 7 [.tmp 2] Q) (argsF [.pointer (some aa0)]) w := by kernel_rfl
theorem ok (aa0 : Addr) (w : World) (Q : Ending → World → Prop) (h : wp aa0 w Q) : Calls Tryd.prog 16 #[.pointer (some aa0)] w Q := by
  rw [wp_eq] at h
  exact calls_of_codeW (c := body) (rs := [.tmp 2]) Tryd.func16 (by kernel_rfl) (by kernel_rfl) (by kernel_rfl) (by kernel_rfl) (by kernel_rfl) (tab_snd (by
    intro x hx
    simp only [tb, List.not_mem_nil] at hx
    )) (by kernel_rfl) h
end f_disk_Disk_Steps
namespace f_disk_Disk_On
/-! (*skein/disk.Disk).On: function 17 -/
noncomputable def body : Code := (Tryd.f17.body).getD .skip
def l0 : Nat → Addr → Option Addr → Nat → Nat → Int → Int → World → (World → Prop) → Prop
  | 0, _, _, _, _, _, _, _, _ => False
  | k + 1, at0, At6, nt6, ct6, xt7, xt8, w, K0 =>
    sel (decide (xt8 < xt7)) (
    optB At6 fun a1 =>
    req (decide (0 ≤ xt8 ∧ xt8 < (nt6 : Int))) <|
    ldI w (a1.add (xt8.toNat * 1)) .i64 fun x2 =>
    sel (decide (x2 ≥ (0 : Int))) (
    ldS w at0 fun A3 n3 c3 =>
    sel (decide (x2 < (n3 : Int))) (
    Calls Tryd.prog 38 #[.pointer (some at0), .int .i64 x2] w fun e4 w5 => e4 = .returned (.tuple #[]) ∧ (
    l0 k at0 At6 nt6 ct6 xt7 (IntKind.i64.wrap (xt8 + (1 : Int))) w5 K0)) (
    l0 k at0 At6 nt6 ct6 xt7 (IntKind.i64.wrap (xt8 + (1 : Int))) w K0)) (
    l0 k at0 At6 nt6 ct6 xt7 (IntKind.i64.wrap (xt8 + (1 : Int))) w K0)) (
    K0  w)
def wp (aa0 : Addr) (Aa1 : Option Addr) (na1 : Nat) (ca1 : Nat) (w : World) (Q : Ending → World → Prop) : Prop :=
  ∃ k11 : Nat, l0 k11 aa0 Aa1 na1 ca1 (na1 : Int) (0 : Int) w (fun (w6 : World) => ∀ _ : Fr,
  ldM w6 (aa0.add 1) fun m7 =>
  Runs Tryd.prog (Builtin.clear_ #[80] 0 #[.map m7]) w6 fun v9 w8 => v9 = (.tuple #[]) ∧ (
  stW w8 (aa0.add 4) (.bool false) fun w10 =>
  Q (.returned (.tuple #[])) w10))
def D : Nat → Option DH := dtab []
def l0LO : LO := ⟨[], [], [(0, [0])], []⟩
def l0Tk (k : Nat) : Spec := fun Q σ w =>
  gAd (σ 0) fun at0 =>
  gSlice (σ 6) fun At6 nt6 ct6 =>
  gInt .i64 (σ 7) fun xt7 =>
  gInt .i64 (σ 8) fun xt8 =>
  l0 k at0 At6 nt6 ct6 xt7 xt8 w (fun (w : World) => ∀ d : Fr, Q (.exit 0) (ov d [(0, .pointer (some at0))]) w)
def l0T : Spec := fun Q σ w => ∃ k, l0Tk k Q σ w
def l0tb : List (List Nat × Spec) := []
noncomputable def l0b : Code := (subC [0, 0, 1, 0] body).getD .skip
theorem l0_eq (k : Nat) (at0 : Addr) (At6 : Option Addr) (nt6 : Nat) (ct6 : Nat) (xt7 : Int) (xt8 : Int) (Q : PQ) (σ : Fr) (w : World) :
    l0 (k + 1) at0 At6 nt6 ct6 xt7 xt8 w (fun (w : World) => ∀ d : Fr, Q (.exit 0) (ov d [(0, .pointer (some at0))]) w) = codeW Tryd.prog hT 34 D (tab l0tb) [0, 0, 1, 0] l0b (thenQ (l0Tk k Q) (widen l0LO Q)) (ov σ [(0, .pointer (some at0)), (6, .slice At6 nt6 ct6), (7, .int .i64 xt7), (8, .int .i64 xt8)]) w := by kernel_rfl
theorem l0_snd : ∀ c, subC [0, 1, 0] body = some c → Snd Tryd.prog 34 c l0T := by
  refine loop_of (hT := hT) (D := D) (l := l0tb) (b := l0b) (lo := l0LO) (by kernel_rfl) (by
    intro x hx
    simp only [l0tb, List.not_mem_nil] at hx
    ) (by kernel_rfl) (by kernel_rfl) ?_ ?_
  · intro Q σ w h
    unfold l0Tk at h
    obtain ⟨at0, h0, hn⟩ := gAd_elim h
    clear h
    have h := hn
    clear hn
    obtain ⟨At6, nt6, ct6, h6, hn⟩ := gSlice_elim h
    clear h
    have h := hn
    clear hn
    obtain ⟨xt7, h7, hn⟩ := gInt_elim h
    clear h
    have h := hn
    clear hn
    obtain ⟨xt8, h8, hn⟩ := gInt_elim h
    clear h
    have h := hn
    clear hn
    exact h
  · intro k Q σ w h
    unfold l0Tk at h
    obtain ⟨at0, h0, hn⟩ := gAd_elim h
    clear h
    have h := hn
    clear hn
    obtain ⟨At6, nt6, ct6, h6, hn⟩ := gSlice_elim h
    clear h
    have h := hn
    clear hn
    obtain ⟨xt7, h7, hn⟩ := gInt_elim h
    clear h
    have h := hn
    clear hn
    obtain ⟨xt8, h8, hn⟩ := gInt_elim h
    clear h
    have h := hn
    clear hn
    rw [l0_eq (σ := σ)] at h
    have e : (ov σ [(0, .pointer (some at0)), (6, .slice At6 nt6 ct6), (7, .int .i64 xt7), (8, .int .i64 xt8)]) = σ := ov_self (by simp [h0, h6, h7, h8])
    rw [e] at h
    exact h
def tb : List (List Nat × Spec) := [([0, 1, 0], l0T)]
theorem wp_eq (aa0 : Addr) (Aa1 : Option Addr) (na1 : Nat) (ca1 : Nat) (w : World) (Q : Ending → World → Prop) :
    wp aa0 Aa1 na1 ca1 w Q = codeW Tryd.prog hT 34 D (tab tb) [] body (topQ Tryd.prog hT 34 [] Q) (argsF [.pointer (some aa0), .slice Aa1 na1 ca1]) w := by kernel_rfl
theorem ok (aa0 : Addr) (Aa1 : Option Addr) (na1 : Nat) (ca1 : Nat) (w : World) (Q : Ending → World → Prop) (h : wp aa0 Aa1 na1 ca1 w Q) : Calls Tryd.prog 17 #[.pointer (some aa0), .slice Aa1 na1 ca1] w Q := by
  rw [wp_eq] at h
  exact calls_of_codeW (c := body) (rs := []) Tryd.func17 (by kernel_rfl) (by kernel_rfl) (by kernel_rfl) (by kernel_rfl) (by kernel_rfl) (tab_snd (by
    intro x hx
    simp only [tb, List.mem_cons, List.not_mem_nil, or_false] at hx
    subst hx
    exact l0_snd)) (by kernel_rfl) h
end f_disk_Disk_On
namespace f_disk_Disk_Write
/-! (*skein/disk.Disk).Write: function 24 -/
noncomputable def body : Code := (Tryd.f24.body).getD .skip
def wp (aa0 : Addr) (xa1 : Int) (Aa2 : Option Addr) (na2 : Nat) (ca2 : Nat) (w : World) (Q : Ending → World → Prop) : Prop :=
  alW w (.cells #[.pointer (some aa0)] 24) fun B1 w2 =>
  alW w2 (.cells #[.int .i64 xa1] 3) fun B3 w4 =>
  alW w4 (.cells #[.slice Aa2 na2 ca2] 29) fun B5 w6 =>
  ldP w6 (⟨B1, 0, Option.none⟩ : Addr) fun p7 =>
  optB p7 fun a8 =>
  ldB w6 (a8.add 4) fun b9 =>
  sel b9 (
  Q (.returned (.int .i64 (70 : Int))) w6) (
  drW w6 fun w10 =>
  ldI w10 (⟨B3, 0, Option.none⟩ : Addr) .i64 fun x12 =>
  sel (decide (x12 < (0 : Int))) (
  Q (.returned (.int .i64 (1 : Int))) w10) (
  ldI w10 (⟨B3, 0, Option.none⟩ : Addr) .i64 fun x13 =>
  ldP w10 (⟨B1, 0, Option.none⟩ : Addr) fun p14 =>
  optB p14 fun a15 =>
  ldS w10 a15 fun A16 n16 c16 =>
  sel (decide (x13 ≥ (n16 : Int))) (
  Q (.returned (.int .i64 (1 : Int))) w10) (
  ldS w10 (⟨B5, 0, Option.none⟩ : Addr) fun A17 n17 c17 =>
  sel (decide ((n17 : Int) > (512 : Int))) (
  Q (.returned (.int .i64 (1 : Int))) w10) (
  ldP w10 (⟨B1, 0, Option.none⟩ : Addr) fun p18 =>
  Calls Tryd.prog 48 #[.pointer p18, .func (.func 49) #[] #[.pointer (some (⟨B5, 0, Option.none⟩ : Addr)), .pointer (some (⟨B1, 0, Option.none⟩ : Addr)), .pointer (some (⟨B3, 0, Option.none⟩ : Addr))]] w10 fun e19 w20 => ∃ (x21 : Int), e19 = .returned (.int .i64 x21) ∧ (
  Q (.returned (.int .i64 x21)) w20)))))
def D : Nat → Option DH := dtab [(3, .simple [.fst 0, .fst 1, .fst 2, .fst 3, .fst 4, .fst 5, .fst 6, .fst 7, .fst 8, .fst 9, .fst 10, .fst 11, .fst 12] [.fst 13, .fst 14, .fst 15, .fst 16])]
def tb : List (List Nat × Spec) := []
theorem wp_eq (aa0 : Addr) (xa1 : Int) (Aa2 : Option Addr) (na2 : Nat) (ca2 : Nat) (w : World) (Q : Ending → World → Prop) :
    wp aa0 xa1 Aa2 na2 ca2 w Q = codeW Tryd.prog hT 32 D (tab tb) [] body (topQ Tryd.prog hT 32 [.tmp 6] Q) (argsF [.pointer (some aa0), .int .i64 xa1, .slice Aa2 na2 ca2]) w := by kernel_rfl
theorem ok (aa0 : Addr) (xa1 : Int) (Aa2 : Option Addr) (na2 : Nat) (ca2 : Nat) (w : World) (Q : Ending → World → Prop) (h : wp aa0 xa1 Aa2 na2 ca2 w Q) : Calls Tryd.prog 24 #[.pointer (some aa0), .int .i64 xa1, .slice Aa2 na2 ca2] w Q := by
  rw [wp_eq] at h
  exact calls_of_codeW (c := body) (rs := [.tmp 6]) Tryd.func24 (by kernel_rfl) (by kernel_rfl) (by kernel_rfl) (by kernel_rfl) (by kernel_rfl) (tab_snd (by
    intro x hx
    simp only [tb, List.not_mem_nil] at hx
    )) (by kernel_rfl) h
end f_disk_Disk_Write
namespace f_disk_New
/-! skein/disk.New: function 30 -/
noncomputable def body : Code := (Tryd.f30.body).getD .skip
def wp (xa0 : Int) (w : World) (Q : Ending → World → Prop) : Prop :=
  Runs Tryd.prog (Instr.makeSlice 79 (.int .i64 (if (4096 : Int) < (if (0 : Int) > xa0 then (0 : Int) else xa0) then (4096 : Int) else (if (0 : Int) > xa0 then (0 : Int) else xa0))) (.int .i64 (if (4096 : Int) < (if (0 : Int) > xa0 then (0 : Int) else xa0) then (4096 : Int) else (if (0 : Int) > xa0 then (0 : Int) else xa0)))) w fun v2 w1 => ∃ (A3 : Option Addr) (n3 : Nat) (c3 : Nat), v2 = (.slice A3 n3 c3) ∧ (
  alW w1 (.map #[] 0) fun B4 w5 =>
  alW w5 (.cells #[.slice A3 n3 c3, .map (some B4), .slice none 0 0, .int .i64 (0 : Int), .bool false] 82) fun B6 w7 =>
  Q (.returned (.pointer (some (⟨B6, 0, Option.none⟩ : Addr)))) w7)
def D : Nat → Option DH := dtab []
def tb : List (List Nat × Spec) := []
theorem wp_eq (xa0 : Int) (w : World) (Q : Ending → World → Prop) :
    wp xa0 w Q = codeW Tryd.prog hT 10 D (tab tb) [] body (topQ Tryd.prog hT 10 [.tmp 2] Q) (argsF [.int .i64 xa0]) w := by kernel_rfl
theorem ok (xa0 : Int) (w : World) (Q : Ending → World → Prop) (h : wp xa0 w Q) : Calls Tryd.prog 30 #[.int .i64 xa0] w Q := by
  rw [wp_eq] at h
  exact calls_of_codeW (c := body) (rs := [.tmp 2]) Tryd.func30 (by kernel_rfl) (by kernel_rfl) (by kernel_rfl) (by kernel_rfl) (by kernel_rfl) (tab_snd (by
    intro x hx
    simp only [tb, List.not_mem_nil] at hx
    )) (by kernel_rfl) h
end f_disk_New
namespace f_disk_Disk_Sync
/-! (*skein/disk.Disk).Sync: function 36 -/
noncomputable def body : Code := (Tryd.f36.body).getD .skip
def wp (aa0 : Addr) (w : World) (Q : Ending → World → Prop) : Prop :=
  alW w (.cells #[.pointer (some aa0)] 24) fun B1 w2 =>
  ldP w2 (⟨B1, 0, Option.none⟩ : Addr) fun p3 =>
  optB p3 fun a4 =>
  ldB w2 (a4.add 4) fun b5 =>
  sel b5 (
  Q (.returned (.int .i64 (70 : Int))) w2) (
  ldP w2 (⟨B1, 0, Option.none⟩ : Addr) fun p6 =>
  Calls Tryd.prog 48 #[.pointer p6, .func (.func 62) #[] #[.pointer (some (⟨B1, 0, Option.none⟩ : Addr))]] w2 fun e7 w8 => ∃ (x9 : Int), e7 = .returned (.int .i64 x9) ∧ (
  Q (.returned (.int .i64 x9)) w8))
def D : Nat → Option DH := dtab []
def tb : List (List Nat × Spec) := []
theorem wp_eq (aa0 : Addr) (w : World) (Q : Ending → World → Prop) :
    wp aa0 w Q = codeW Tryd.prog hT 10 D (tab tb) [] body (topQ Tryd.prog hT 10 [.tmp 2] Q) (argsF [.pointer (some aa0)]) w := by kernel_rfl
theorem ok (aa0 : Addr) (w : World) (Q : Ending → World → Prop) (h : wp aa0 w Q) : Calls Tryd.prog 36 #[.pointer (some aa0)] w Q := by
  rw [wp_eq] at h
  exact calls_of_codeW (c := body) (rs := [.tmp 2]) Tryd.func36 (by kernel_rfl) (by kernel_rfl) (by kernel_rfl) (by kernel_rfl) (by kernel_rfl) (tab_snd (by
    intro x hx
    simp only [tb, List.not_mem_nil] at hx
    )) (by kernel_rfl) h
end f_disk_Disk_Sync
namespace f_api_Fate_Clone
/-! slices.Clone[[]skein/api.Fate,skein/api.Fate]: function 37 -/
noncomputable def body : Code := (Tryd.f37.body).getD .skip
def wp (Aa0 : Option Addr) (na0 : Nat) (ca0 : Nat) (w : World) (Q : Ending → World → Prop) : Prop :=
  sel Aa0.isNone (
  Q (.returned (.slice none 0 0)) w) (
  alW w (.cells #[] 51) fun B1 w2 =>
  Runs Tryd.prog (Builtin.append_ #[31, 31] 31 #[.slice (some (⟨B1, 0, Option.none⟩ : Addr)) 0 0, .slice Aa0 na0 ca0]) w2 fun v4 w3 => ∃ (A5 : Option Addr) (n5 : Nat) (c5 : Nat), v4 = (.slice A5 n5 c5) ∧ (
  Q (.returned (.slice A5 n5 c5)) w3))
def D : Nat → Option DH := dtab []
def tb : List (List Nat × Spec) := []
theorem wp_eq (Aa0 : Option Addr) (na0 : Nat) (ca0 : Nat) (w : World) (Q : Ending → World → Prop) :
    wp Aa0 na0 ca0 w Q = codeW Tryd.prog hT 8 D (tab tb) [] body (topQ Tryd.prog hT 8 [.tmp 2] Q) (argsF [.slice Aa0 na0 ca0]) w := by kernel_rfl
theorem ok (Aa0 : Option Addr) (na0 : Nat) (ca0 : Nat) (w : World) (Q : Ending → World → Prop) (h : wp Aa0 na0 ca0 w Q) : Calls Tryd.prog 37 #[.slice Aa0 na0 ca0] w Q := by
  rw [wp_eq] at h
  exact calls_of_codeW (c := body) (rs := [.tmp 2]) Tryd.func37 (by kernel_rfl) (by kernel_rfl) (by kernel_rfl) (by kernel_rfl) (by kernel_rfl) (tab_snd (by
    intro x hx
    simp only [tb, List.not_mem_nil] at hx
    )) (by kernel_rfl) h
end f_api_Fate_Clone
namespace f_disk_Disk_settle
/-! (*skein/disk.Disk).settle: function 38 -/
noncomputable def body : Code := (Tryd.f38.body).getD .skip
def wp (aa0 : Addr) (xa1 : Int) (w : World) (Q : Ending → World → Prop) : Prop :=
  drW w fun w1 =>
  ∃ S2 : World → Prop, S2 w1 ∧ (
  hdS S2 aa0 fun A3 n3 c3 =>
  Calls Tryd.prog 63 #[.pointer (some aa0), .int .i64 xa1] w1 fun e4 w5 => ∃ (cs6 : Array Value), e4 = .returned (.agg cs6) ∧ (
  S2 w5 ∧ (
  optB A3 fun a7 =>
  req (decide (0 ≤ xa1 ∧ xa1 < (n3 : Int))) <|
  Runs Tryd.prog (Instr.storeAt 97 (.pointer (some (a7.add (xa1.toNat * 512)))) (.agg cs6)) w5 fun _ w8 =>
  Q (.returned (.tuple #[])) w8)))
def D : Nat → Option DH := dtab [(0, .held [.fst 0, .fst 1, .fst 2, .fst 3, .fst 4, .fst 5, .fst 6, .eff 7] [.fst 8, .eff 9])]
def tb : List (List Nat × Spec) := []
theorem wp_eq (aa0 : Addr) (xa1 : Int) (w : World) (Q : Ending → World → Prop) :
    wp aa0 xa1 w Q = codeW Tryd.prog hT 13 D (tab tb) [] body (topQ Tryd.prog hT 13 [] Q) (argsF [.pointer (some aa0), .int .i64 xa1]) w := by kernel_rfl
theorem ok (aa0 : Addr) (xa1 : Int) (w : World) (Q : Ending → World → Prop) (h : wp aa0 xa1 w Q) : Calls Tryd.prog 38 #[.pointer (some aa0), .int .i64 xa1] w Q := by
  rw [wp_eq] at h
  exact calls_of_codeW (c := body) (rs := []) Tryd.func38 (by kernel_rfl) (by kernel_rfl) (by kernel_rfl) (by kernel_rfl) (by kernel_rfl) (tab_snd (by
    intro x hx
    simp only [tb, List.not_mem_nil] at hx
    )) (by kernel_rfl) h
end f_disk_Disk_settle
namespace f_disk_Disk_Write_1
/-! (*skein/disk.Disk).Write$1: function 49 -/
noncomputable def body : Code := (Tryd.f49.body).getD .skip
def wp (ac0 : Addr) (ac1 : Addr) (ac2 : Addr) (w : World) (Q : Ending → World → Prop) : Prop :=
  alW w (.cells (zeroCs Tryd.prog 97) 97) fun B1 w2 =>
  drW w2 fun w3 =>
  ldS w3 ac0 fun A5 n5 c5 =>
  Runs Tryd.prog (Builtin.copy_ #[29, 29] 3 #[.slice (some (slB (⟨B1, 0, Option.none⟩ : Addr) 0 512 1)) (512 - 0) (512 - 0), .slice A5 n5 c5]) w3 fun v7 w6 => ∃ (x8 : Int), v7 = (.int .i64 x8) ∧ (
  drW w6 fun w9 =>
  ∃ S10 : World → Prop, S10 w9 ∧ (
  hdP S10 ac1 fun p11 =>
  optB p11 fun a12 =>
  hdM S10 (a12.add 1) fun m13 =>
  hdI S10 ac2 .i64 fun x14 =>
  Runs Tryd.prog (Instr.loadAt 97 (.pointer (some (⟨B1, 0, Option.none⟩ : Addr)))) w9 fun v16 w15 => ∃ (cs17 : Array Value), v16 = (.agg cs17) ∧ (
  S10 w15 ∧ (
  Runs Tryd.prog (Instr.mapUpdate 80 (.map m13) (.int .i64 x14) (.agg cs17)) w15 fun _ w18 =>
  Q (.returned (.tuple #[])) w18))))
def D : Nat → Option DH := dtab [(1, .simple [.fst 0, .fst 1] [.eff 2]), (2, .held [.fst 0, .fst 1, .fst 2, .fst 3, .fst 4, .eff 5] [.eff 6])]
def tb : List (List Nat × Spec) := []
theorem wp_eq (ac0 : Addr) (ac1 : Addr) (ac2 : Addr) (w : World) (Q : Ending → World → Prop) :
    wp ac0 ac1 ac2 w Q = codeW Tryd.prog hT 13 D (tab tb) [] body (topQ Tryd.prog hT 13 [] Q) (argsF [.pointer (some ac0), .pointer (some ac1), .pointer (some ac2)]) w := by kernel_rfl
theorem ok (ac0 : Addr) (ac1 : Addr) (ac2 : Addr) (w : World) (Q : Ending → World → Prop) (h : wp ac0 ac1 ac2 w Q) : Calls Tryd.prog 49 #[.pointer (some ac0), .pointer (some ac1), .pointer (some ac2)] w Q := by
  rw [wp_eq] at h
  exact calls_of_codeW (c := body) (rs := []) Tryd.func49 (by kernel_rfl) (by kernel_rfl) (by kernel_rfl) (by kernel_rfl) (by kernel_rfl) (tab_snd (by
    intro x hx
    simp only [tb, List.not_mem_nil] at hx
    )) (by kernel_rfl) h
end f_disk_Disk_Write_1
namespace f_disk_Disk_Sync_1
/-! (*skein/disk.Disk).Sync$1: function 62 -/
noncomputable def body : Code := (Tryd.f62.body).getD .skip
def l0 : Nat → Addr → Option Addr → World → (World → Prop) → Prop
  | 0, _, _, _, _ => False
  | k + 1, at0, pt6, w, K0 =>
    Runs Tryd.prog (Instr.next (.pointer pt6) false 0) w fun v8 w7 => ∃ (b9 : Bool) (r9 : List Value), v8 = (.tuple ⟨.bool b9 :: r9⟩) ∧ (
    sel b9 (
    Runs Tryd.prog (Instr.entry (.pointer pt6)) w7 fun v11 w10 => ∃ (x12_0 : Int) (cs12_1 : Array Value), v11 = (.tuple #[.int .i64 x12_0, .agg cs12_1]) ∧ (
    ldP w10 at0 fun p13 =>
    Calls Tryd.prog 38 #[.pointer p13, .int .i64 x12_0] w10 fun e14 w15 => e14 = .returned (.tuple #[]) ∧ (
    l0 k at0 pt6 w15 K0))) (
    K0  w7))
def wp (ac0 : Addr) (w : World) (Q : Ending → World → Prop) : Prop :=
  ldP w ac0 fun p1 =>
  optB p1 fun a2 =>
  ldM w (a2.add 1) fun m3 =>
  Runs Tryd.prog (Instr.range 80 (.map m3)) w fun v5 w4 => ∃ (p6 : Option Addr), v5 = (.pointer p6) ∧ (
  ∃ k22 : Nat, l0 k22 ac0 p6 w4 (fun (w16 : World) => ∀ _ : Fr,
  ldP w16 ac0 fun p17 =>
  optB p17 fun a18 =>
  ldM w16 (a18.add 1) fun m19 =>
  Runs Tryd.prog (Builtin.clear_ #[80] 0 #[.map m19]) w16 fun v21 w20 => v21 = (.tuple #[]) ∧ (
  Q (.returned (.tuple #[])) w20)))
def D : Nat → Option DH := dtab []
def hTe : Hint := fun t => bif Nat.beq t 1000009 then .tup [(.sc (.int .i64)), (.sc .arr)] else hT t
def l0LO : LO := ⟨[], [], [(0, [0])], []⟩
def l0Tk (k : Nat) : Spec := fun Q σ w =>
  gAd (σ 0) fun at0 =>
  gPtr (σ 6) fun pt6 =>
  l0 k at0 pt6 w (fun (w : World) => ∀ d : Fr, Q (.exit 0) (ov d [(0, .pointer (some at0))]) w)
def l0T : Spec := fun Q σ w => ∃ k, l0Tk k Q σ w
def l0tb : List (List Nat × Spec) := []
noncomputable def l0b : Code := (subC [0, 0, 1, 0] body).getD .skip
theorem l0_eq (k : Nat) (at0 : Addr) (pt6 : Option Addr) (Q : PQ) (σ : Fr) (w : World) :
    l0 (k + 1) at0 pt6 w (fun (w : World) => ∀ d : Fr, Q (.exit 0) (ov d [(0, .pointer (some at0))]) w) = codeW Tryd.prog hTe 18 D (tab l0tb) [0, 0, 1, 0] l0b (thenQ (l0Tk k Q) (widen l0LO Q)) (ov σ [(0, .pointer (some at0)), (6, .pointer pt6)]) w := by kernel_rfl
theorem l0_snd : ∀ c, subC [0, 1, 0] body = some c → Snd Tryd.prog 18 c l0T := by
  refine loop_of (hT := hTe) (D := D) (l := l0tb) (b := l0b) (lo := l0LO) (by kernel_rfl) (by
    intro x hx
    simp only [l0tb, List.not_mem_nil] at hx
    ) (by kernel_rfl) (by kernel_rfl) ?_ ?_
  · intro Q σ w h
    unfold l0Tk at h
    obtain ⟨at0, h0, hn⟩ := gAd_elim h
    clear h
    have h := hn
    clear hn
    obtain ⟨pt6, h6, hn⟩ := gPtr_elim h
    clear h
    have h := hn
    clear hn
    exact h
  · intro k Q σ w h
    unfold l0Tk at h
    obtain ⟨at0, h0, hn⟩ := gAd_elim h
    clear h
    have h := hn
    clear hn
    obtain ⟨pt6, h6, hn⟩ := gPtr_elim h
    clear h
    have h := hn
    clear hn
    rw [l0_eq (σ := σ)] at h
    have e : (ov σ [(0, .pointer (some at0)), (6, .pointer pt6)]) = σ := ov_self (by simp [h0, h6])
    rw [e] at h
    exact h
def tb : List (List Nat × Spec) := [([0, 1, 0], l0T)]
theorem wp_eq (ac0 : Addr) (w : World) (Q : Ending → World → Prop) :
    wp ac0 w Q = codeW Tryd.prog hTe 18 D (tab tb) [] body (topQ Tryd.prog hTe 18 [] Q) (argsF [.pointer (some ac0)]) w := by kernel_rfl
theorem ok (ac0 : Addr) (w : World) (Q : Ending → World → Prop) (h : wp ac0 w Q) : Calls Tryd.prog 62 #[.pointer (some ac0)] w Q := by
  rw [wp_eq] at h
  exact calls_of_codeW (c := body) (rs := []) Tryd.func62 (by kernel_rfl) (by kernel_rfl) (by kernel_rfl) (by kernel_rfl) (by kernel_rfl) (tab_snd (by
    intro x hx
    simp only [tb, List.mem_cons, List.not_mem_nil, or_false] at hx
    subst hx
    exact l0_snd)) (by kernel_rfl) h
end f_disk_Disk_Sync_1
namespace f_disk_Disk_has
/-! (*skein/disk.Disk).has: function 63 -/
noncomputable def body : Code := (Tryd.f63.body).getD .skip
def wp (aa0 : Addr) (xa1 : Int) (w : World) (Q : Ending → World → Prop) : Prop :=
  alW w (.cells (zeroCs Tryd.prog 97) 97) fun B1 w2 =>
  ldM w2 (aa0.add 1) fun m3 =>
  Runs Tryd.prog (Instr.lookup 80 (.map m3) (.int .i64 xa1) true) w2 fun v5 w4 => ∃ (cs6_0 : Array Value) (b6_1 : Bool), v5 = (.tuple #[.agg cs6_0, .bool b6_1]) ∧ (
  alW w4 (.cells (zeroCs Tryd.prog 97) 97) fun B7 w8 =>
  Runs Tryd.prog (Instr.storeAt 97 (.pointer (some (⟨B7, 0, Option.none⟩ : Addr))) (.agg cs6_0)) w8 fun _ w9 =>
  sel b6_1 (
  Runs Tryd.prog (Instr.loadAt 97 (.pointer (some (⟨B7, 0, Option.none⟩ : Addr)))) w9 fun v11 w10 => ∃ (cs12 : Array Value), v11 = (.agg cs12) ∧ (
  Runs Tryd.prog (Instr.storeAt 97 (.pointer (some (⟨B1, 0, Option.none⟩ : Addr))) (.agg cs12)) w10 fun _ w13 =>
  ldBig Tryd.prog w13 97 (⟨B1, 0, Option.none⟩ : Addr) fun cs14 =>
  Q (.returned (.agg cs14)) w13)) (
  ldS w9 aa0 fun A15 n15 c15 =>
  optB A15 fun a16 =>
  req (decide (0 ≤ xa1 ∧ xa1 < (n15 : Int))) <|
  Runs Tryd.prog (Instr.loadAt 97 (.pointer (some (a16.add (xa1.toNat * 512))))) w9 fun v18 w17 => ∃ (cs19 : Array Value), v18 = (.agg cs19) ∧ (
  Runs Tryd.prog (Instr.storeAt 97 (.pointer (some (⟨B1, 0, Option.none⟩ : Addr))) (.agg cs19)) w17 fun _ w20 =>
  ldBig Tryd.prog w20 97 (⟨B1, 0, Option.none⟩ : Addr) fun cs21 =>
  Q (.returned (.agg cs21)) w20)))
def D : Nat → Option DH := dtab []
def tb : List (List Nat × Spec) := []
theorem wp_eq (aa0 : Addr) (xa1 : Int) (w : World) (Q : Ending → World → Prop) :
    wp aa0 xa1 w Q = codeW Tryd.prog hT 25 D (tab tb) [] body (topQ Tryd.prog hT 25 [.cell 4 97] Q) (argsF [.pointer (some aa0), .int .i64 xa1]) w := by kernel_rfl
theorem ok (aa0 : Addr) (xa1 : Int) (w : World) (Q : Ending → World → Prop) (h : wp aa0 xa1 w Q) : Calls Tryd.prog 63 #[.pointer (some aa0), .int .i64 xa1] w Q := by
  rw [wp_eq] at h
  exact calls_of_codeW (c := body) (rs := [.cell 4 97]) Tryd.func63 (by kernel_rfl) (by kernel_rfl) (by kernel_rfl) (by kernel_rfl) (by kernel_rfl) (tab_snd (by
    intro x hx
    simp only [tb, List.not_mem_nil] at hx
    )) (by kernel_rfl) h
end f_disk_Disk_has
namespace f_disk_Disk_Size
/-! (*skein/disk.Disk).Size: function 64 -/
noncomputable def body : Code := (Tryd.f64.body).getD .skip
def wp (aa0 : Addr) (w : World) (Q : Ending → World → Prop) : Prop :=
  ldS w aa0 fun A1 n1 c1 =>
  Q (.returned (.int .i64 (n1 : Int))) w
def D : Nat → Option DH := dtab []
def tb : List (List Nat × Spec) := []
theorem wp_eq (aa0 : Addr) (w : World) (Q : Ending → World → Prop) :
    wp aa0 w Q = codeW Tryd.prog hT 8 D (tab tb) [] body (topQ Tryd.prog hT 8 [.tmp 2] Q) (argsF [.pointer (some aa0)]) w := by kernel_rfl
theorem ok (aa0 : Addr) (w : World) (Q : Ending → World → Prop) (h : wp aa0 w Q) : Calls Tryd.prog 64 #[.pointer (some aa0)] w Q := by
  rw [wp_eq] at h
  exact calls_of_codeW (c := body) (rs := [.tmp 2]) Tryd.func64 (by kernel_rfl) (by kernel_rfl) (by kernel_rfl) (by kernel_rfl) (by kernel_rfl) (tab_snd (by
    intro x hx
    simp only [tb, List.not_mem_nil] at hx
    )) (by kernel_rfl) h
end f_disk_Disk_Size
namespace f_disk_Disk_Read
/-! (*skein/disk.Disk).Read: function 65 -/
noncomputable def body : Code := (Tryd.f65.body).getD .skip
def wp (aa0 : Addr) (xa1 : Int) (w : World) (Q : Ending → World → Prop) : Prop :=
  ldB w (aa0.add 4) fun b1 =>
  sel b1 (
  Q (.returned (.tuple #[.slice none 0 0, .int .i64 (70 : Int)])) w) (
  sel (decide (xa1 < (0 : Int))) (
  Q (.returned (.tuple #[.slice none 0 0, .int .i64 (1 : Int)])) w) (
  ldS w aa0 fun A2 n2 c2 =>
  sel (decide (xa1 ≥ (n2 : Int))) (
  Q (.returned (.tuple #[.slice none 0 0, .int .i64 (1 : Int)])) w) (
  Calls Tryd.prog 63 #[.pointer (some aa0), .int .i64 xa1] w fun e3 w4 => ∃ (cs5 : Array Value), e3 = .returned (.agg cs5) ∧ (
  alW w4 (.cells (zeroCs Tryd.prog 97) 97) fun B6 w7 =>
  Runs Tryd.prog (Instr.storeAt 97 (.pointer (some (⟨B6, 0, Option.none⟩ : Addr))) (.agg cs5)) w7 fun _ w8 =>
  Q (.returned (.tuple #[.slice (some (slB (⟨B6, 0, Option.none⟩ : Addr) 0 512 1)) (512 - 0) (512 - 0), .int .i64 (0 : Int)])) w8))))
def D : Nat → Option DH := dtab []
def tb : List (List Nat × Spec) := []
theorem wp_eq (aa0 : Addr) (xa1 : Int) (w : World) (Q : Ending → World → Prop) :
    wp aa0 xa1 w Q = codeW Tryd.prog hT 28 D (tab tb) [] body (topQ Tryd.prog hT 28 [.tmp 4, .tmp 5] Q) (argsF [.pointer (some aa0), .int .i64 xa1]) w := by kernel_rfl
theorem ok (aa0 : Addr) (xa1 : Int) (w : World) (Q : Ending → World → Prop) (h : wp aa0 xa1 w Q) : Calls Tryd.prog 65 #[.pointer (some aa0), .int .i64 xa1] w Q := by
  rw [wp_eq] at h
  exact calls_of_codeW (c := body) (rs := [.tmp 4, .tmp 5]) Tryd.func65 (by kernel_rfl) (by kernel_rfl) (by kernel_rfl) (by kernel_rfl) (by kernel_rfl) (tab_snd (by
    intro x hx
    simp only [tb, List.not_mem_nil] at hx
    )) (by kernel_rfl) h
end f_disk_Disk_Read
namespace f_api_Fate_Back
/-! slices.Backward[[]skein/api.Fate,skein/api.Fate]: function 70 -/
noncomputable def body : Code := (Tryd.f70.body).getD .skip
def wp (Aa0 : Option Addr) (na0 : Nat) (ca0 : Nat) (w : World) (Q : Ending → World → Prop) : Prop :=
  alW w (.cells #[.slice Aa0 na0 ca0] 31) fun B1 w2 =>
  Q (.returned (.func (.func 86) #[] #[.pointer (some (⟨B1, 0, Option.none⟩ : Addr))])) w2
def D : Nat → Option DH := dtab []
def tb : List (List Nat × Spec) := []
theorem wp_eq (Aa0 : Option Addr) (na0 : Nat) (ca0 : Nat) (w : World) (Q : Ending → World → Prop) :
    wp Aa0 na0 ca0 w Q = codeW Tryd.prog hT 4 D (tab tb) [] body (topQ Tryd.prog hT 4 [.tmp 2] Q) (argsF [.slice Aa0 na0 ca0]) w := by kernel_rfl
theorem ok (Aa0 : Option Addr) (na0 : Nat) (ca0 : Nat) (w : World) (Q : Ending → World → Prop) (h : wp Aa0 na0 ca0 w Q) : Calls Tryd.prog 70 #[.slice Aa0 na0 ca0] w Q := by
  rw [wp_eq] at h
  exact calls_of_codeW (c := body) (rs := [.tmp 2]) Tryd.func70 (by kernel_rfl) (by kernel_rfl) (by kernel_rfl) (by kernel_rfl) (by kernel_rfl) (tab_snd (by
    intro x hx
    simp only [tb, List.not_mem_nil] at hx
    )) (by kernel_rfl) h
end f_api_Fate_Back
namespace f_ref01_Copy
/-! skein/skeinref01.Copy: function 11 -/
noncomputable def body : Code := (Tryd.f11.body).getD .skip
def l0 : Nat → Option Addr → Nat → Nat → Option Addr → Nat → Nat → Int → World → ((Option Addr) → Nat → Nat → World → Prop) → Prop
  | 0, _, _, _, _, _, _, _, _, _ => False
  | k + 1, At0, nt0, ct0, At3, nt3, ct3, xt4, w, K0 =>
    sel (decide (xt4 < (nt0 : Int))) (
    optB At0 fun a3 =>
    req (decide (0 ≤ xt4 ∧ xt4 < (nt0 : Int))) <|
    ldI w (a3.add (xt4.toNat * 1)) .u8 fun x4 =>
    alW w (.cells #[.int .u8 x4] 5) fun B5 w6 =>
    Runs Tryd.prog (Builtin.append_ #[29, 29] 29 #[.slice At3 nt3 ct3, .slice (some (⟨B5, 0, Option.none⟩ : Addr)) 1 1]) w6 fun v8 w7 => ∃ (A9 : Option Addr) (n9 : Nat) (c9 : Nat), v8 = (.slice A9 n9 c9) ∧ (
    l0 k At0 nt0 ct0 A9 n9 c9 (IntKind.i64.wrap (xt4 + (1 : Int))) w7 K0)) (
    K0 At3 nt3 ct3 w)
def wp (Aa0 : Option Addr) (na0 : Nat) (ca0 : Nat) (w : World) (Q : Ending → World → Prop) : Prop :=
  alW w (.cells #[] 5) fun B1 w2 =>
  ∃ k12 : Nat, l0 k12 Aa0 na0 ca0 (some (⟨B1, 0, Option.none⟩ : Addr)) 0 0 (0 : Int) w2 (fun (A10 : Option Addr) (n10 : Nat) (c10 : Nat) (w11 : World) => ∀ _ : Fr,
  Q (.returned (.slice A10 n10 c10)) w11)
def D : Nat → Option DH := dtab []
def l0LO : LO := ⟨[], [], [(0, [3])], []⟩
def l0Tk (k : Nat) : Spec := fun Q σ w =>
  gSlice (σ 0) fun At0 nt0 ct0 =>
  gSlice (σ 3) fun At3 nt3 ct3 =>
  gInt .i64 (σ 4) fun xt4 =>
  l0 k At0 nt0 ct0 At3 nt3 ct3 xt4 w (fun (Aq3 : Option Addr) (nq3 : Nat) (cq3 : Nat) (w : World) => ∀ d : Fr, Q (.exit 0) (ov d [(3, .slice Aq3 nq3 cq3)]) w)
def l0T : Spec := fun Q σ w => ∃ k, l0Tk k Q σ w
def l0tb : List (List Nat × Spec) := []
noncomputable def l0b : Code := (subC [0, 0, 1, 0, 1, 1] body).getD .skip
theorem l0_eq (k : Nat) (At0 : Option Addr) (nt0 : Nat) (ct0 : Nat) (At3 : Option Addr) (nt3 : Nat) (ct3 : Nat) (xt4 : Int) (Q : PQ) (σ : Fr) (w : World) :
    l0 (k + 1) At0 nt0 ct0 At3 nt3 ct3 xt4 w (fun (Aq3 : Option Addr) (nq3 : Nat) (cq3 : Nat) (w : World) => ∀ d : Fr, Q (.exit 0) (ov d [(3, .slice Aq3 nq3 cq3)]) w) = codeW Tryd.prog hT 20 D (tab l0tb) [0, 0, 1, 0, 1, 1] l0b (thenQ (l0Tk k Q) (widen l0LO Q)) (ov σ [(0, .slice At0 nt0 ct0), (3, .slice At3 nt3 ct3), (4, .int .i64 xt4)]) w := by kernel_rfl
theorem l0_snd : ∀ c, subC [0, 1, 0, 1, 1] body = some c → Snd Tryd.prog 20 c l0T := by
  refine loop_of (hT := hT) (D := D) (l := l0tb) (b := l0b) (lo := l0LO) (by kernel_rfl) (by
    intro x hx
    simp only [l0tb, List.not_mem_nil] at hx
    ) (by kernel_rfl) (by kernel_rfl) ?_ ?_
  · intro Q σ w h
    unfold l0Tk at h
    obtain ⟨At0, nt0, ct0, h0, hn⟩ := gSlice_elim h
    clear h
    have h := hn
    clear hn
    obtain ⟨At3, nt3, ct3, h3, hn⟩ := gSlice_elim h
    clear h
    have h := hn
    clear hn
    obtain ⟨xt4, h4, hn⟩ := gInt_elim h
    clear h
    have h := hn
    clear hn
    exact h
  · intro k Q σ w h
    unfold l0Tk at h
    obtain ⟨At0, nt0, ct0, h0, hn⟩ := gSlice_elim h
    clear h
    have h := hn
    clear hn
    obtain ⟨At3, nt3, ct3, h3, hn⟩ := gSlice_elim h
    clear h
    have h := hn
    clear hn
    obtain ⟨xt4, h4, hn⟩ := gInt_elim h
    clear h
    have h := hn
    clear hn
    rw [l0_eq (σ := σ)] at h
    have e : (ov σ [(0, .slice At0 nt0 ct0), (3, .slice At3 nt3 ct3), (4, .int .i64 xt4)]) = σ := ov_self (by simp [h0, h3, h4])
    rw [e] at h
    exact h
def tb : List (List Nat × Spec) := [([0, 1, 0, 1, 1], l0T)]
theorem wp_eq (Aa0 : Option Addr) (na0 : Nat) (ca0 : Nat) (w : World) (Q : Ending → World → Prop) :
    wp Aa0 na0 ca0 w Q = codeW Tryd.prog hT 20 D (tab tb) [] body (topQ Tryd.prog hT 20 [.tmp 2] Q) (argsF [.slice Aa0 na0 ca0]) w := by kernel_rfl
theorem ok (Aa0 : Option Addr) (na0 : Nat) (ca0 : Nat) (w : World) (Q : Ending → World → Prop) (h : wp Aa0 na0 ca0 w Q) : Calls Tryd.prog 11 #[.slice Aa0 na0 ca0] w Q := by
  rw [wp_eq] at h
  exact calls_of_codeW (c := body) (rs := [.tmp 2]) Tryd.func11 (by kernel_rfl) (by kernel_rfl) (by kernel_rfl) (by kernel_rfl) (by kernel_rfl) (tab_snd (by
    intro x hx
    simp only [tb, List.mem_cons, List.not_mem_nil, or_false] at hx
    subst hx
    exact l0_snd)) (by kernel_rfl) h
end f_ref01_Copy
namespace f_bytes_Clone
/-! bytes.Clone: function 33 -/
noncomputable def body : Code := (Tryd.f33.body).getD .skip
def wp (Aa0 : Option Addr) (na0 : Nat) (ca0 : Nat) (w : World) (Q : Ending → World → Prop) : Prop :=
  sel Aa0.isNone (
  Q (.returned (.slice none 0 0)) w) (
  alW w (.cells #[] 5) fun B1 w2 =>
  Runs Tryd.prog (Builtin.append_ #[29, 29] 29 #[.slice (some (⟨B1, 0, Option.none⟩ : Addr)) 0 0, .slice Aa0 na0 ca0]) w2 fun v4 w3 => ∃ (A5 : Option Addr) (n5 : Nat) (c5 : Nat), v4 = (.slice A5 n5 c5) ∧ (
  Q (.returned (.slice A5 n5 c5)) w3))
def D : Nat → Option DH := dtab []
def tb : List (List Nat × Spec) := []
theorem wp_eq (Aa0 : Option Addr) (na0 : Nat) (ca0 : Nat) (w : World) (Q : Ending → World → Prop) :
    wp Aa0 na0 ca0 w Q = codeW Tryd.prog hT 8 D (tab tb) [] body (topQ Tryd.prog hT 8 [.tmp 2] Q) (argsF [.slice Aa0 na0 ca0]) w := by kernel_rfl
theorem ok (Aa0 : Option Addr) (na0 : Nat) (ca0 : Nat) (w : World) (Q : Ending → World → Prop) (h : wp Aa0 na0 ca0 w Q) : Calls Tryd.prog 33 #[.slice Aa0 na0 ca0] w Q := by
  rw [wp_eq] at h
  exact calls_of_codeW (c := body) (rs := [.tmp 2]) Tryd.func33 (by kernel_rfl) (by kernel_rfl) (by kernel_rfl) (by kernel_rfl) (by kernel_rfl) (tab_snd (by
    intro x hx
    simp only [tb, List.not_mem_nil] at hx
    )) (by kernel_rfl) h
end f_bytes_Clone
namespace f_num_PutText
/-! skein/num.PutText: function 32 -/
noncomputable def body : Code := (Tryd.f32.body).getD .skip
def wp (Aa0 : Option Addr) (na0 : Nat) (ca0 : Nat) (w : World) (Q : Ending → World → Prop) : Prop :=
  Calls Tryd.prog 60 #[.int .u64 (IntKind.u64.wrap (na0 : Int))] w fun e1 w2 => ∃ (A3 : Option Addr) (n3 : Nat) (c3 : Nat), e1 = .returned (.slice A3 n3 c3) ∧ (
  Runs Tryd.prog (Builtin.append_ #[29, 29] 29 #[.slice A3 n3 c3, .slice Aa0 na0 ca0]) w2 fun v5 w4 => ∃ (A6 : Option Addr) (n6 : Nat) (c6 : Nat), v5 = (.slice A6 n6 c6) ∧ (
  Q (.returned (.slice A6 n6 c6)) w4))
def D : Nat → Option DH := dtab []
def tb : List (List Nat × Spec) := []
theorem wp_eq (Aa0 : Option Addr) (na0 : Nat) (ca0 : Nat) (w : World) (Q : Ending → World → Prop) :
    wp Aa0 na0 ca0 w Q = codeW Tryd.prog hT 9 D (tab tb) [] body (topQ Tryd.prog hT 9 [.tmp 2] Q) (argsF [.slice Aa0 na0 ca0]) w := by kernel_rfl
theorem ok (Aa0 : Option Addr) (na0 : Nat) (ca0 : Nat) (w : World) (Q : Ending → World → Prop) (h : wp Aa0 na0 ca0 w Q) : Calls Tryd.prog 32 #[.slice Aa0 na0 ca0] w Q := by
  rw [wp_eq] at h
  exact calls_of_codeW (c := body) (rs := [.tmp 2]) Tryd.func32 (by kernel_rfl) (by kernel_rfl) (by kernel_rfl) (by kernel_rfl) (by kernel_rfl) (tab_snd (by
    intro x hx
    simp only [tb, List.not_mem_nil] at hx
    )) (by kernel_rfl) h
end f_num_PutText
namespace f_num_Put
/-! skein/num.Put: function 60 -/
noncomputable def body : Code := (Tryd.f60.body).getD .skip
def l0 : Nat → Int → Option Addr → Nat → Nat → World → (Int → (Option Addr) → Nat → Nat → World → Prop) → Prop
  | 0, _, _, _, _, _, _ => False
  | k + 1, xt0, At3, nt3, ct3, w, K0 =>
    sel (decide (xt0 ≥ (128 : Int))) (
    alW w (.cells #[.int .u8 (bor .u8 (IntKind.u8.wrap xt0) (128 : Int))] 5) fun B1 w2 =>
    Runs Tryd.prog (Builtin.append_ #[29, 29] 29 #[.slice At3 nt3 ct3, .slice (some (⟨B1, 0, Option.none⟩ : Addr)) 1 1]) w2 fun v4 w3 => ∃ (A5 : Option Addr) (n5 : Nat) (c5 : Nat), v4 = (.slice A5 n5 c5) ∧ (
    l0 k (xt0.fdiv (2 ^ 7)) A5 n5 c5 w3 K0)) (
    K0 xt0 At3 nt3 ct3 w)
def wp (xa0 : Int) (w : World) (Q : Ending → World → Prop) : Prop :=
  ∃ k14 : Nat, l0 k14 xa0 none 0 0 w (fun (x6 : Int) (A7 : Option Addr) (n7 : Nat) (c7 : Nat) (w8 : World) => ∀ _ : Fr,
  alW w8 (.cells #[.int .u8 (IntKind.u8.wrap x6)] 5) fun B9 w10 =>
  Runs Tryd.prog (Builtin.append_ #[29, 29] 29 #[.slice A7 n7 c7, .slice (some (⟨B9, 0, Option.none⟩ : Addr)) 1 1]) w10 fun v12 w11 => ∃ (A13 : Option Addr) (n13 : Nat) (c13 : Nat), v12 = (.slice A13 n13 c13) ∧ (
  Q (.returned (.slice A13 n13 c13)) w11))
def D : Nat → Option DH := dtab []
def l0LO : LO := ⟨[], [], [(0, [0, 3])], []⟩
def l0Tk (k : Nat) : Spec := fun Q σ w =>
  gInt .u64 (σ 0) fun xt0 =>
  gSlice (σ 3) fun At3 nt3 ct3 =>
  l0 k xt0 At3 nt3 ct3 w (fun (xq0 : Int) (Aq3 : Option Addr) (nq3 : Nat) (cq3 : Nat) (w : World) => ∀ d : Fr, Q (.exit 0) (ov d [(0, .int .u64 xq0), (3, .slice Aq3 nq3 cq3)]) w)
def l0T : Spec := fun Q σ w => ∃ k, l0Tk k Q σ w
def l0tb : List (List Nat × Spec) := []
noncomputable def l0b : Code := (subC [0, 0, 0, 1, 1] body).getD .skip
theorem l0_eq (k : Nat) (xt0 : Int) (At3 : Option Addr) (nt3 : Nat) (ct3 : Nat) (Q : PQ) (σ : Fr) (w : World) :
    l0 (k + 1) xt0 At3 nt3 ct3 w (fun (xq0 : Int) (Aq3 : Option Addr) (nq3 : Nat) (cq3 : Nat) (w : World) => ∀ d : Fr, Q (.exit 0) (ov d [(0, .int .u64 xq0), (3, .slice Aq3 nq3 cq3)]) w) = codeW Tryd.prog hT 19 D (tab l0tb) [0, 0, 0, 1, 1] l0b (thenQ (l0Tk k Q) (widen l0LO Q)) (ov σ [(0, .int .u64 xt0), (3, .slice At3 nt3 ct3)]) w := by kernel_rfl
theorem l0_snd : ∀ c, subC [0, 0, 1, 1] body = some c → Snd Tryd.prog 19 c l0T := by
  refine loop_of (hT := hT) (D := D) (l := l0tb) (b := l0b) (lo := l0LO) (by kernel_rfl) (by
    intro x hx
    simp only [l0tb, List.not_mem_nil] at hx
    ) (by kernel_rfl) (by kernel_rfl) ?_ ?_
  · intro Q σ w h
    unfold l0Tk at h
    obtain ⟨xt0, h0, hn⟩ := gInt_elim h
    clear h
    have h := hn
    clear hn
    obtain ⟨At3, nt3, ct3, h3, hn⟩ := gSlice_elim h
    clear h
    have h := hn
    clear hn
    exact h
  · intro k Q σ w h
    unfold l0Tk at h
    obtain ⟨xt0, h0, hn⟩ := gInt_elim h
    clear h
    have h := hn
    clear hn
    obtain ⟨At3, nt3, ct3, h3, hn⟩ := gSlice_elim h
    clear h
    have h := hn
    clear hn
    rw [l0_eq (σ := σ)] at h
    have e : (ov σ [(0, .int .u64 xt0), (3, .slice At3 nt3 ct3)]) = σ := ov_self (by simp [h0, h3])
    rw [e] at h
    exact h
def tb : List (List Nat × Spec) := [([0, 0, 1, 1], l0T)]
theorem wp_eq (xa0 : Int) (w : World) (Q : Ending → World → Prop) :
    wp xa0 w Q = codeW Tryd.prog hT 19 D (tab tb) [] body (topQ Tryd.prog hT 19 [.tmp 2] Q) (argsF [.int .u64 xa0]) w := by kernel_rfl
theorem ok (xa0 : Int) (w : World) (Q : Ending → World → Prop) (h : wp xa0 w Q) : Calls Tryd.prog 60 #[.int .u64 xa0] w Q := by
  rw [wp_eq] at h
  exact calls_of_codeW (c := body) (rs := [.tmp 2]) Tryd.func60 (by kernel_rfl) (by kernel_rfl) (by kernel_rfl) (by kernel_rfl) (by kernel_rfl) (tab_snd (by
    intro x hx
    simp only [tb, List.mem_cons, List.not_mem_nil, or_false] at hx
    subst hx
    exact l0_snd)) (by kernel_rfl) h
end f_num_Put
namespace f_crc_Seal
/-! skein/crc.Seal: function 61 -/
noncomputable def body : Code := (Tryd.f61.body).getD .skip
def wp (Aa0 : Option Addr) (na0 : Nat) (ca0 : Nat) (w : World) (Q : Ending → World → Prop) : Prop :=
  alW w (.cells #[.slice Aa0 na0 ca0] 29) fun B1 w2 =>
  Calls Tryd.prog 80 #[.slice (some (⟨B1, 0, Option.none⟩ : Addr)) 1 1] w2 fun e3 w4 => ∃ (x5 : Int), e3 = .returned (.int .u32 x5) ∧ (
  Calls Tryd.prog 79 #[.int .u32 x5] w4 fun e6 w7 => ∃ (x8_0 : Int) (x8_1 : Int) (x8_2 : Int) (x8_3 : Int), e6 = .returned (.agg #[.int .u8 x8_0, .int .u8 x8_1, .int .u8 x8_2, .int .u8 x8_3]) ∧ (
  alW w7 (.cells #[.int .u8 (0 : Int), .int .u8 (0 : Int), .int .u8 (0 : Int), .int .u8 (0 : Int)] 127) fun B9 w10 =>
  stW w10 (⟨B9, 0, Option.none⟩ : Addr) (.int .u8 x8_0) fun w11 =>
  stW w11 ((⟨B9, 0, Option.none⟩ : Addr).add 1) (.int .u8 x8_1) fun w12 =>
  stW w12 ((⟨B9, 0, Option.none⟩ : Addr).add 2) (.int .u8 x8_2) fun w13 =>
  stW w13 ((⟨B9, 0, Option.none⟩ : Addr).add 3) (.int .u8 x8_3) fun w14 =>
  drW w14 fun w15 =>
  Runs Tryd.prog (Instr.makeSlice 29 (.int .i64 (0 : Int)) (.int .i64 (IntKind.i64.wrap ((na0 : Int) + (4 : Int))))) w15 fun v18 w17 => ∃ (A19 : Option Addr) (n19 : Nat) (c19 : Nat), v18 = (.slice A19 n19 c19) ∧ (
  Runs Tryd.prog (Builtin.append_ #[29, 29] 29 #[.slice A19 n19 c19, .slice (some (slB (⟨B9, 0, Option.none⟩ : Addr) 0 4 1)) (4 - 0) (4 - 0)]) w17 fun v21 w20 => ∃ (A22 : Option Addr) (n22 : Nat) (c22 : Nat), v21 = (.slice A22 n22 c22) ∧ (
  Runs Tryd.prog (Builtin.append_ #[29, 29] 29 #[.slice A22 n22 c22, .slice Aa0 na0 ca0]) w20 fun v24 w23 => ∃ (A25 : Option Addr) (n25 : Nat) (c25 : Nat), v24 = (.slice A25 n25 c25) ∧ (
  Q (.returned (.slice A25 n25 c25)) w23)))))
def D : Nat → Option DH := dtab [(2, .simple [] [.fst 0, .fst 1, .fst 2, .fst 4, .fst 6, .eff 3, .eff 5, .eff 7, .fst 8])]
def tb : List (List Nat × Spec) := []
theorem wp_eq (Aa0 : Option Addr) (na0 : Nat) (ca0 : Nat) (w : World) (Q : Ending → World → Prop) :
    wp Aa0 na0 ca0 w Q = codeW Tryd.prog hT 16 D (tab tb) [] body (topQ Tryd.prog hT 16 [.tmp 2] Q) (argsF [.slice Aa0 na0 ca0]) w := by kernel_rfl
theorem ok (Aa0 : Option Addr) (na0 : Nat) (ca0 : Nat) (w : World) (Q : Ending → World → Prop) (h : wp Aa0 na0 ca0 w Q) : Calls Tryd.prog 61 #[.slice Aa0 na0 ca0] w Q := by
  rw [wp_eq] at h
  exact calls_of_codeW (c := body) (rs := [.tmp 2]) Tryd.func61 (by kernel_rfl) (by kernel_rfl) (by kernel_rfl) (by kernel_rfl) (by kernel_rfl) (tab_snd (by
    intro x hx
    simp only [tb, List.not_mem_nil] at hx
    )) (by kernel_rfl) h
end f_crc_Seal
namespace f_crc_head
/-! skein/crc.head: function 79 -/
noncomputable def body : Code := (Tryd.f79.body).getD .skip
def wp (xa0 : Int) (w : World) (Q : Ending → World → Prop) : Prop :=
  alW w (.cells #[.int .u8 (0 : Int), .int .u8 (0 : Int), .int .u8 (0 : Int), .int .u8 (0 : Int)] 127) fun B1 w2 =>
  stW w2 (⟨B1, 0, Option.none⟩ : Addr) (.int .u8 (IntKind.u8.wrap xa0)) fun w3 =>
  stW w3 ((⟨B1, 0, Option.none⟩ : Addr).add 1) (.int .u8 (IntKind.u8.wrap (xa0.fdiv (2 ^ 8)))) fun w4 =>
  stW w4 ((⟨B1, 0, Option.none⟩ : Addr).add 2) (.int .u8 (IntKind.u8.wrap (xa0.fdiv (2 ^ 16)))) fun w5 =>
  stW w5 ((⟨B1, 0, Option.none⟩ : Addr).add 3) (.int .u8 (IntKind.u8.wrap (xa0.fdiv (2 ^ 24)))) fun w6 =>
  ldI w6 (⟨B1, 0, Option.none⟩ : Addr) .u8 fun x7 =>
  ldI w6 ((⟨B1, 0, Option.none⟩ : Addr).add 1) .u8 fun x8 =>
  ldI w6 ((⟨B1, 0, Option.none⟩ : Addr).add 2) .u8 fun x9 =>
  ldI w6 ((⟨B1, 0, Option.none⟩ : Addr).add 3) .u8 fun x10 =>
  Q (.returned (.agg #[.int .u8 x7, .int .u8 x8, .int .u8 x9, .int .u8 x10])) w6
def D : Nat → Option DH := dtab []
def tb : List (List Nat × Spec) := []
theorem wp_eq (xa0 : Int) (w : World) (Q : Ending → World → Prop) :
    wp xa0 w Q = codeW Tryd.prog hT 15 D (tab tb) [] body (topQ Tryd.prog hT 15 [.cell 2 127] Q) (argsF [.int .u32 xa0]) w := by kernel_rfl
theorem ok (xa0 : Int) (w : World) (Q : Ending → World → Prop) (h : wp xa0 w Q) : Calls Tryd.prog 79 #[.int .u32 xa0] w Q := by
  rw [wp_eq] at h
  exact calls_of_codeW (c := body) (rs := [.cell 2 127]) Tryd.func79 (by kernel_rfl) (by kernel_rfl) (by kernel_rfl) (by kernel_rfl) (by kernel_rfl) (tab_snd (by
    intro x hx
    simp only [tb, List.not_mem_nil] at hx
    )) (by kernel_rfl) h
end f_crc_head
namespace f_crc_Sum
/-! skein/crc.Sum: function 80 -/
noncomputable def body : Code := (Tryd.f80.body).getD .skip
def l2 : Nat → Int → Int → World → (Int → World → Prop) → Prop
  | 0, _, _, _, _ => False
  | k + 1, xt3, xt24, w, K4 =>
    sel (decide (xt24 < (8 : Int))) (
    Calls Tryd.prog 92 #[.int .u32 xt3] w fun e5 w6 => ∃ (x7 : Int), e5 = .returned (.int .u32 x7) ∧ (
    l2 k x7 (IntKind.i64.wrap (xt24 + (1 : Int))) w6 K4)) (
    K4 xt3 w)
def l1 : Nat → Int → Option Addr → Nat → Nat → Int → Int → World → (Int → World → Prop) → Prop
  | 0, _, _, _, _, _, _, _, _ => False
  | k + 1, xt3, At14, nt14, ct14, xt15, xt16, w, K2 =>
    sel (decide (xt16 < xt15)) (
    optB At14 fun a3 =>
    req (decide (0 ≤ xt16 ∧ xt16 < (nt14 : Int))) <|
    ldI w (a3.add (xt16.toNat * 1)) .u8 fun x4 =>
    ∃ k10 : Nat, l2 k10 (bxor .u32 xt3 (IntKind.u32.wrap x4)) (0 : Int) w (fun (x8 : Int) (w9 : World) => ∀ _ : Fr,
    l1 k x8 At14 nt14 ct14 xt15 (IntKind.i64.wrap (xt16 + (1 : Int))) w9 K2)) (
    K2 xt3 w)
def l0 : Nat → Int → Option Addr → Nat → Nat → Int → Int → World → (Int → World → Prop) → Prop
  | 0, _, _, _, _, _, _, _, _ => False
  | k + 1, xt3, At8, nt8, ct8, xt9, xt10, w, K0 =>
    sel (decide (xt10 < xt9)) (
    optB At8 fun a1 =>
    req (decide (0 ≤ xt10 ∧ xt10 < (nt8 : Int))) <|
    ldS w (a1.add (xt10.toNat * 1)) fun A2 n2 c2 =>
    ∃ k13 : Nat, l1 k13 xt3 A2 n2 c2 (n2 : Int) (0 : Int) w (fun (x11 : Int) (w12 : World) => ∀ _ : Fr,
    l0 k x11 At8 nt8 ct8 xt9 (IntKind.i64.wrap (xt10 + (1 : Int))) w12 K0)) (
    K0 xt3 w)
def wp (Aa0 : Option Addr) (na0 : Nat) (ca0 : Nat) (w : World) (Q : Ending → World → Prop) : Prop :=
  ∃ k16 : Nat, l0 k16 (4294967295 : Int) Aa0 na0 ca0 (na0 : Int) (0 : Int) w (fun (x14 : Int) (w15 : World) => ∀ _ : Fr,
  Q (.returned (.int .u32 (bxor .u32 (4294967295 : Int) x14))) w15)
def D : Nat → Option DH := dtab []
def l2LO : LO := ⟨[], [], [(4, [3, 8, 9, 10, 14, 15, 16])], []⟩
def l2Tk (k : Nat) : Spec := fun Q σ w =>
  gInt .u32 (σ 3) fun xt3 =>
  gInt .i64 (σ 24) fun xt24 =>
  l2 k xt3 xt24 w (fun (xq3 : Int) (w : World) => ∀ d : Fr, Q (.exit 4) (ov d [(3, .int .u32 xq3), (8, σ 8), (9, σ 9), (10, σ 10), (14, σ 14), (15, σ 15), (16, σ 16)]) w)
def l2T : Spec := fun Q σ w => ∃ k, l2Tk k Q σ w
def l2tb : List (List Nat × Spec) := []
noncomputable def l2b : Code := (subC [0, 0, 1, 1, 1, 0, 0, 1, 1, 0, 0, 1, 1, 0, 0, 1, 1, 0, 0, 1, 0, 1, 1] body).getD .skip
theorem l2_eq (k : Nat) (xt3 : Int) (xt24 : Int) (Q : PQ) (σ : Fr) (w : World) :
    l2 (k + 1) xt3 xt24 w (fun (xq3 : Int) (w : World) => ∀ d : Fr, Q (.exit 4) (ov d [(3, .int .u32 xq3), (8, σ 8), (9, σ 9), (10, σ 10), (14, σ 14), (15, σ 15), (16, σ 16)]) w) = codeW Tryd.prog hT 33 D (tab l2tb) [0, 0, 1, 1, 1, 0, 0, 1, 1, 0, 0, 1, 1, 0, 0, 1, 1, 0, 0, 1, 0, 1, 1] l2b (thenQ (l2Tk k Q) (widen l2LO Q)) (ov σ [(3, .int .u32 xt3), (24, .int .i64 xt24)]) w := by kernel_rfl
theorem l2_snd : ∀ c, subC [0, 1, 1, 1, 0, 0, 1, 1, 0, 0, 1, 1, 0, 0, 1, 1, 0, 0, 1, 0, 1, 1] body = some c → Snd Tryd.prog 33 c l2T := by
  refine loop_of (hT := hT) (D := D) (l := l2tb) (b := l2b) (lo := l2LO) (by kernel_rfl) (by
    intro x hx
    simp only [l2tb, List.not_mem_nil] at hx
    ) (by kernel_rfl) (by kernel_rfl) ?_ ?_
  · intro Q σ w h
    unfold l2Tk at h
    obtain ⟨xt3, h3, hn⟩ := gInt_elim h
    clear h
    have h := hn
    clear hn
    obtain ⟨xt24, h24, hn⟩ := gInt_elim h
    clear h
    have h := hn
    clear hn
    exact h
  · intro k Q σ w h
    unfold l2Tk at h
    obtain ⟨xt3, h3, hn⟩ := gInt_elim h
    clear h
    have h := hn
    clear hn
    obtain ⟨xt24, h24, hn⟩ := gInt_elim h
    clear h
    have h := hn
    clear hn
    rw [l2_eq (σ := σ)] at h
    have e : (ov σ [(3, .int .u32 xt3), (24, .int .i64 xt24)]) = σ := ov_self (by simp [h3, h24])
    rw [e] at h
    exact h
def l1LO : LO := ⟨[], [], [(2, [3, 8, 9, 10])], []⟩
def l1Tk (k : Nat) : Spec := fun Q σ w =>
  gInt .u32 (σ 3) fun xt3 =>
  gSlice (σ 14) fun At14 nt14 ct14 =>
  gInt .i64 (σ 15) fun xt15 =>
  gInt .i64 (σ 16) fun xt16 =>
  l1 k xt3 At14 nt14 ct14 xt15 xt16 w (fun (xq3 : Int) (w : World) => ∀ d : Fr, Q (.exit 2) (ov d [(3, .int .u32 xq3), (8, σ 8), (9, σ 9), (10, σ 10)]) w)
def l1T : Spec := fun Q σ w => ∃ k, l1Tk k Q σ w
def l1tb : List (List Nat × Spec) := [([0, 1, 1, 1, 0, 0, 1, 1, 0, 0, 1, 1, 0, 0, 1, 1, 0, 0, 1, 0, 1, 1], l2T)]
noncomputable def l1b : Code := (subC [0, 0, 1, 1, 0, 0, 1, 1, 0, 0, 1, 0, 1, 1] body).getD .skip
theorem l1_eq (k : Nat) (xt3 : Int) (At14 : Option Addr) (nt14 : Nat) (ct14 : Nat) (xt15 : Int) (xt16 : Int) (Q : PQ) (σ : Fr) (w : World) :
    l1 (k + 1) xt3 At14 nt14 ct14 xt15 xt16 w (fun (xq3 : Int) (w : World) => ∀ d : Fr, Q (.exit 2) (ov d [(3, .int .u32 xq3), (8, σ 8), (9, σ 9), (10, σ 10)]) w) = codeW Tryd.prog hT 33 D (tab l1tb) [0, 0, 1, 1, 0, 0, 1, 1, 0, 0, 1, 0, 1, 1] l1b (thenQ (l1Tk k Q) (widen l1LO Q)) (ov σ [(3, .int .u32 xt3), (14, .slice At14 nt14 ct14), (15, .int .i64 xt15), (16, .int .i64 xt16)]) w := by kernel_rfl
theorem l1_snd : ∀ c, subC [0, 1, 1, 0, 0, 1, 1, 0, 0, 1, 0, 1, 1] body = some c → Snd Tryd.prog 33 c l1T := by
  refine loop_of (hT := hT) (D := D) (l := l1tb) (b := l1b) (lo := l1LO) (by kernel_rfl) (by
    intro x hx
    simp only [l1tb, List.mem_cons, List.not_mem_nil, or_false] at hx
    subst hx
    exact l2_snd) (by kernel_rfl) (by kernel_rfl) ?_ ?_
  · intro Q σ w h
    unfold l1Tk at h
    obtain ⟨xt3, h3, hn⟩ := gInt_elim h
    clear h
    have h := hn
    clear hn
    obtain ⟨At14, nt14, ct14, h14, hn⟩ := gSlice_elim h
    clear h
    have h := hn
    clear hn
    obtain ⟨xt15, h15, hn⟩ := gInt_elim h
    clear h
    have h := hn
    clear hn
    obtain ⟨xt16, h16, hn⟩ := gInt_elim h
    clear h
    have h := hn
    clear hn
    exact h
  · intro k Q σ w h
    unfold l1Tk at h
    obtain ⟨xt3, h3, hn⟩ := gInt_elim h
    clear h
    have h := hn
    clear hn
    obtain ⟨At14, nt14, ct14, h14, hn⟩ := gSlice_elim h
    clear h
    have h := hn
    clear hn
    obtain ⟨xt15, h15, hn⟩ := gInt_elim h
    clear h
    have h := hn
    clear hn
    obtain ⟨xt16, h16, hn⟩ := gInt_elim h
    clear h
    have h := hn
    clear hn
    rw [l1_eq (σ := σ)] at h
    have e : (ov σ [(3, .int .u32 xt3), (14, .slice At14 nt14 ct14), (15, .int .i64 xt15), (16, .int .i64 xt16)]) = σ := ov_self (by simp [h3, h14, h15, h16])
    rw [e] at h
    exact h
def l0LO : LO := ⟨[], [], [(0, [3])], []⟩
def l0Tk (k : Nat) : Spec := fun Q σ w =>
  gInt .u32 (σ 3) fun xt3 =>
  gSlice (σ 8) fun At8 nt8 ct8 =>
  gInt .i64 (σ 9) fun xt9 =>
  gInt .i64 (σ 10) fun xt10 =>
  l0 k xt3 At8 nt8 ct8 xt9 xt10 w (fun (xq3 : Int) (w : World) => ∀ d : Fr, Q (.exit 0) (ov d [(3, .int .u32 xq3)]) w)
def l0T : Spec := fun Q σ w => ∃ k, l0Tk k Q σ w
def l0tb : List (List Nat × Spec) := [([0, 1, 1, 1, 0, 0, 1, 1, 0, 0, 1, 1, 0, 0, 1, 1, 0, 0, 1, 0, 1, 1], l2T), ([0, 1, 1, 0, 0, 1, 1, 0, 0, 1, 0, 1, 1], l1T)]
noncomputable def l0b : Code := (subC [0, 0, 1, 0, 1, 1] body).getD .skip
theorem l0_eq (k : Nat) (xt3 : Int) (At8 : Option Addr) (nt8 : Nat) (ct8 : Nat) (xt9 : Int) (xt10 : Int) (Q : PQ) (σ : Fr) (w : World) :
    l0 (k + 1) xt3 At8 nt8 ct8 xt9 xt10 w (fun (xq3 : Int) (w : World) => ∀ d : Fr, Q (.exit 0) (ov d [(3, .int .u32 xq3)]) w) = codeW Tryd.prog hT 33 D (tab l0tb) [0, 0, 1, 0, 1, 1] l0b (thenQ (l0Tk k Q) (widen l0LO Q)) (ov σ [(3, .int .u32 xt3), (8, .slice At8 nt8 ct8), (9, .int .i64 xt9), (10, .int .i64 xt10)]) w := by kernel_rfl
theorem l0_snd : ∀ c, subC [0, 1, 0, 1, 1] body = some c → Snd Tryd.prog 33 c l0T := by
  refine loop_of (hT := hT) (D := D) (l := l0tb) (b := l0b) (lo := l0LO) (by kernel_rfl) (by
    intro x hx
    simp only [l0tb, List.mem_cons, List.not_mem_nil, or_false] at hx
    rcases hx with rfl | rfl
    · exact l2_snd
    · exact l1_snd) (by kernel_rfl) (by kernel_rfl) ?_ ?_
  · intro Q σ w h
    unfold l0Tk at h
    obtain ⟨xt3, h3, hn⟩ := gInt_elim h
    clear h
    have h := hn
    clear hn
    obtain ⟨At8, nt8, ct8, h8, hn⟩ := gSlice_elim h
    clear h
    have h := hn
    clear hn
    obtain ⟨xt9, h9, hn⟩ := gInt_elim h
    clear h
    have h := hn
    clear hn
    obtain ⟨xt10, h10, hn⟩ := gInt_elim h
    clear h
    have h := hn
    clear hn
    exact h
  · intro k Q σ w h
    unfold l0Tk at h
    obtain ⟨xt3, h3, hn⟩ := gInt_elim h
    clear h
    have h := hn
    clear hn
    obtain ⟨At8, nt8, ct8, h8, hn⟩ := gSlice_elim h
    clear h
    have h := hn
    clear hn
    obtain ⟨xt9, h9, hn⟩ := gInt_elim h
    clear h
    have h := hn
    clear hn
    obtain ⟨xt10, h10, hn⟩ := gInt_elim h
    clear h
    have h := hn
    clear hn
    rw [l0_eq (σ := σ)] at h
    have e : (ov σ [(3, .int .u32 xt3), (8, .slice At8 nt8 ct8), (9, .int .i64 xt9), (10, .int .i64 xt10)]) = σ := ov_self (by simp [h3, h8, h9, h10])
    rw [e] at h
    exact h
def tb : List (List Nat × Spec) := [([0, 1, 1, 1, 0, 0, 1, 1, 0, 0, 1, 1, 0, 0, 1, 1, 0, 0, 1, 0, 1, 1], l2T), ([0, 1, 1, 0, 0, 1, 1, 0, 0, 1, 0, 1, 1], l1T), ([0, 1, 0, 1, 1], l0T)]
theorem wp_eq (Aa0 : Option Addr) (na0 : Nat) (ca0 : Nat) (w : World) (Q : Ending → World → Prop) :
    wp Aa0 na0 ca0 w Q = codeW Tryd.prog hT 33 D (tab tb) [] body (topQ Tryd.prog hT 33 [.tmp 2] Q) (argsF [.slice Aa0 na0 ca0]) w := by kernel_rfl
theorem ok (Aa0 : Option Addr) (na0 : Nat) (ca0 : Nat) (w : World) (Q : Ending → World → Prop) (h : wp Aa0 na0 ca0 w Q) : Calls Tryd.prog 80 #[.slice Aa0 na0 ca0] w Q := by
  rw [wp_eq] at h
  exact calls_of_codeW (c := body) (rs := [.tmp 2]) Tryd.func80 (by kernel_rfl) (by kernel_rfl) (by kernel_rfl) (by kernel_rfl) (by kernel_rfl) (tab_snd (by
    intro x hx
    simp only [tb, List.mem_cons, List.not_mem_nil, or_false] at hx
    rcases hx with rfl | rfl | rfl
    · exact l2_snd
    · exact l1_snd
    · exact l0_snd)) (by kernel_rfl) h
end f_crc_Sum
namespace f_crc_Open
/-! skein/crc.Open: function 81 -/
noncomputable def body : Code := (Tryd.f81.body).getD .skip
def wp (Aa0 : Option Addr) (na0 : Nat) (ca0 : Nat) (w : World) (Q : Ending → World → Prop) : Prop :=
  drW w fun w1 =>
  ∃ S2 : World → Prop, S2 w1 ∧ (
  sel (decide ((na0 : Int) < (4 : Int))) (
  S2 w1 ∧ (
  S2 w1 ∧ (
  S2 w1 ∧ (
  Q (.returned (.tuple #[.slice none 0 0, .bool false])) w1)))) (
  req (decide (4 ≤ na0)) <|
  optB Aa0 fun a3 =>
  hdI S2 a3 .u8 fun x4 =>
  hdI S2 (a3.add 1) .u8 fun x5 =>
  hdI S2 (a3.add 2) .u8 fun x6 =>
  hdI S2 (a3.add 3) .u8 fun x7 =>
  req (decide (0 ≤ (4 : Int) ∧ (4 : Int) ≤ (na0 : Int))) <|
  alW w1 (.cells #[.slice (slA Aa0 4 ca0 1) (na0 - 4) (ca0 - 4)] 29) fun B8 w9 =>
  S2 w9 ∧ (
  Calls Tryd.prog 80 #[.slice (some (⟨B8, 0, Option.none⟩ : Addr)) 1 1] w9 fun e10 w11 => ∃ (x12 : Int), e10 = .returned (.int .u32 x12) ∧ (
  S2 w11 ∧ (
  Calls Tryd.prog 79 #[.int .u32 x12] w11 fun e13 w14 => ∃ (x15_0 : Int) (x15_1 : Int) (x15_2 : Int) (x15_3 : Int), e13 = .returned (.agg #[.int .u8 x15_0, .int .u8 x15_1, .int .u8 x15_2, .int .u8 x15_3]) ∧ (
  S2 w14 ∧ (
  sel (!((x4 == x15_0) && ((x5 == x15_1) && ((x6 == x15_2) && ((x7 == x15_3) && true))))) (
  Q (.returned (.tuple #[.slice none 0 0, .bool false])) w14) (
  req (decide (0 ≤ (4 : Int) ∧ (4 : Int) ≤ (na0 : Int))) <|
  Calls Tryd.prog 33 #[.slice (slA Aa0 4 ca0 1) (na0 - 4) (ca0 - 4)] w14 fun e16 w17 => ∃ (A18 : Option Addr) (n18 : Nat) (c18 : Nat), e16 = .returned (.slice A18 n18 c18) ∧ (
  Q (.returned (.tuple #[.slice A18 n18 c18, .bool true])) w17)))))))))
def D : Nat → Option DH := dtab [(1, .held [.fst 0, .fst 1, .fst 2, .fst 3, .fst 4, .fst 5, .fst 6, .fst 7, .fst 8, .eff 9, .eff 10, .eff 11] [.fst 12, .fst 13])]
def tb : List (List Nat × Spec) := []
theorem wp_eq (Aa0 : Option Addr) (na0 : Nat) (ca0 : Nat) (w : World) (Q : Ending → World → Prop) :
    wp Aa0 na0 ca0 w Q = codeW Tryd.prog hT 21 D (tab tb) [] body (topQ Tryd.prog hT 21 [.tmp 2, .tmp 3] Q) (argsF [.slice Aa0 na0 ca0]) w := by kernel_rfl
theorem ok (Aa0 : Option Addr) (na0 : Nat) (ca0 : Nat) (w : World) (Q : Ending → World → Prop) (h : wp Aa0 na0 ca0 w Q) : Calls Tryd.prog 81 #[.slice Aa0 na0 ca0] w Q := by
  rw [wp_eq] at h
  exact calls_of_codeW (c := body) (rs := [.tmp 2, .tmp 3]) Tryd.func81 (by kernel_rfl) (by kernel_rfl) (by kernel_rfl) (by kernel_rfl) (by kernel_rfl) (tab_snd (by
    intro x hx
    simp only [tb, List.not_mem_nil] at hx
    )) (by kernel_rfl) h
end f_crc_Open
namespace f_crc_step
/-! skein/crc.step: function 92 -/
noncomputable def body : Code := (Tryd.f92.body).getD .skip
def wp (xa0 : Int) (w : World) (Q : Ending → World → Prop) : Prop :=
  Q (.returned (.int .u32 (bxor .u32 (xa0.fdiv (2 ^ 1)) (band .u32 (3988292384 : Int) (IntKind.u32.wrap (0 - (band .u32 xa0 (1 : Int)))))))) w
def D : Nat → Option DH := dtab []
def tb : List (List Nat × Spec) := []
theorem wp_eq (xa0 : Int) (w : World) (Q : Ending → World → Prop) :
    wp xa0 w Q = codeW Tryd.prog hT 10 D (tab tb) [] body (topQ Tryd.prog hT 10 [.tmp 2] Q) (argsF [.int .u32 xa0]) w := by kernel_rfl
theorem ok (xa0 : Int) (w : World) (Q : Ending → World → Prop) (h : wp xa0 w Q) : Calls Tryd.prog 92 #[.int .u32 xa0] w Q := by
  rw [wp_eq] at h
  exact calls_of_codeW (c := body) (rs := [.tmp 2]) Tryd.func92 (by kernel_rfl) (by kernel_rfl) (by kernel_rfl) (by kernel_rfl) (by kernel_rfl) (tab_snd (by
    intro x hx
    simp only [tb, List.not_mem_nil] at hx
    )) (by kernel_rfl) h
end f_crc_step
namespace f_num_Get
/-! skein/num.Get: function 84 -/
noncomputable def body : Code := (Tryd.f84.body).getD .skip
def j1 (At0 : Option Addr) (nt0 : Nat) (ct0 : Nat) (xt1 : Int) (xt7 : Int) (xt8 : Int) (w : World) (Kg0 : Int → Int → World → Prop) (Kr : Int → Int → Int → World → Prop) : Prop :=
  sel (decide (xt8 ≥ (IntKind.i64.wrap ((nt0 : Int) - xt1)))) (
  Kr (0 : Int) (0 : Int) (2 : Int) w) (
  optB At0 fun a1 =>
  req (decide (0 ≤ (IntKind.i64.wrap (xt1 + xt8)) ∧ (IntKind.i64.wrap (xt1 + xt8)) < (nt0 : Int))) <|
  ldI w (a1.add ((IntKind.i64.wrap (xt1 + xt8)).toNat * 1)) .u8 fun x2 =>
  sel (xt8 == (9 : Int)) (
  sel (decide (x2 > (1 : Int))) (
  Kr (0 : Int) (0 : Int) (10 : Int) w) (
  req (!decide ((IntKind.u64.wrap (IntKind.i64.wrap ((7 : Int) * xt8))) < 0)) <|
  sel (decide (x2 ≥ (128 : Int))) (
  Kg0 (bor .u64 xt7 (IntKind.u64.wrap ((IntKind.u64.wrap (band .u8 x2 (127 : Int))) * 2 ^ (min (IntKind.u64.wrap (IntKind.i64.wrap ((7 : Int) * xt8))).toNat 64)))) (IntKind.i64.wrap (xt8 + (1 : Int))) w) (
  sel (x2 == (0 : Int)) (
  sel (decide ((IntKind.i64.wrap (xt8 + (1 : Int))) > (1 : Int))) (
  Kr (0 : Int) (0 : Int) (5 : Int) w) (
  Kr (bor .u64 xt7 (IntKind.u64.wrap ((IntKind.u64.wrap (band .u8 x2 (127 : Int))) * 2 ^ (min (IntKind.u64.wrap (IntKind.i64.wrap ((7 : Int) * xt8))).toNat 64)))) (IntKind.i64.wrap (xt1 + (IntKind.i64.wrap (xt8 + (1 : Int))))) (0 : Int) w)) (
  Kr (bor .u64 xt7 (IntKind.u64.wrap ((IntKind.u64.wrap (band .u8 x2 (127 : Int))) * 2 ^ (min (IntKind.u64.wrap (IntKind.i64.wrap ((7 : Int) * xt8))).toNat 64)))) (IntKind.i64.wrap (xt1 + (IntKind.i64.wrap (xt8 + (1 : Int))))) (0 : Int) w)))) (
  req (!decide ((IntKind.u64.wrap (IntKind.i64.wrap ((7 : Int) * xt8))) < 0)) <|
  sel (decide (x2 ≥ (128 : Int))) (
  Kg0 (bor .u64 xt7 (IntKind.u64.wrap ((IntKind.u64.wrap (band .u8 x2 (127 : Int))) * 2 ^ (min (IntKind.u64.wrap (IntKind.i64.wrap ((7 : Int) * xt8))).toNat 64)))) (IntKind.i64.wrap (xt8 + (1 : Int))) w) (
  sel (x2 == (0 : Int)) (
  sel (decide ((IntKind.i64.wrap (xt8 + (1 : Int))) > (1 : Int))) (
  Kr (0 : Int) (0 : Int) (5 : Int) w) (
  Kr (bor .u64 xt7 (IntKind.u64.wrap ((IntKind.u64.wrap (band .u8 x2 (127 : Int))) * 2 ^ (min (IntKind.u64.wrap (IntKind.i64.wrap ((7 : Int) * xt8))).toNat 64)))) (IntKind.i64.wrap (xt1 + (IntKind.i64.wrap (xt8 + (1 : Int))))) (0 : Int) w)) (
  Kr (bor .u64 xt7 (IntKind.u64.wrap ((IntKind.u64.wrap (band .u8 x2 (127 : Int))) * 2 ^ (min (IntKind.u64.wrap (IntKind.i64.wrap ((7 : Int) * xt8))).toNat 64)))) (IntKind.i64.wrap (xt1 + (IntKind.i64.wrap (xt8 + (1 : Int))))) (0 : Int) w))))
def g0 : Nat → Option Addr → Nat → Nat → Int → Int → Int → World → (Int → Int → Int → World → Prop) → Prop
  | 0, _, _, _, _, _, _, _, _ => False
  | k + 1, At0, nt0, ct0, xt1, xt7, xt8, w, Kr =>
    j1 At0 nt0 ct0 xt1 xt7 xt8 w (fun (xr7 : Int) (xr8 : Int) (w : World) => ∀ _ : Fr,
    g0 k At0 nt0 ct0 xt1 xr7 xr8 w Kr) Kr
def s0 (At0 : Option Addr) (nt0 : Nat) (ct0 : Nat) (xt1 : Int) (w : World) (Kr : Int → Int → Int → World → Prop) : Prop :=
  sel (decide (xt1 < (0 : Int))) (
  Kr (0 : Int) (0 : Int) (1 : Int) w) (
  sel (decide (xt1 > (nt0 : Int))) (
  Kr (0 : Int) (0 : Int) (1 : Int) w) (
  j1 At0 nt0 ct0 xt1 (0 : Int) (0 : Int) w (fun (x3 : Int) (x4 : Int) (w5 : World) => ∀ _ : Fr,
  ∃ k6 : Nat, g0 k6 At0 nt0 ct0 xt1 x3 x4 w5 Kr) (fun (x7 : Int) (x8 : Int) (x9 : Int) (w10 : World) => ∀ _ : Fr,
  Kr x7 x8 x9 w10)))
def wp (Aa0 : Option Addr) (na0 : Nat) (ca0 : Nat) (xa1 : Int) (w : World) (Q : Ending → World → Prop) : Prop :=
  s0 Aa0 na0 ca0 xa1 w (fun (x11 : Int) (x12 : Int) (x13 : Int) (w14 : World) => ∀ _ : Fr,
  Q (.returned (.tuple #[.int .u64 x11, .int .i64 x12, .int .i64 x13])) w14)
def D : Nat → Option DH := dtab []
def j1LO : LO := ⟨[], [4, 5, 6], [], [(0, [0, 1, 7, 8])]⟩
def j1T : Spec := fun Q σ w =>
  gSlice (σ 0) fun At0 nt0 ct0 =>
  gInt .i64 (σ 1) fun xt1 =>
  gInt .u64 (σ 7) fun xt7 =>
  gInt .i64 (σ 8) fun xt8 =>
  j1 At0 nt0 ct0 xt1 xt7 xt8 w (fun (xq7 : Int) (xq8 : Int) (w : World) => ∀ d : Fr, Q (.goto 0) (ov d [(0, .slice At0 nt0 ct0), (1, .int .i64 xt1), (7, .int .u64 xq7), (8, .int .i64 xq8)]) w) (fun (xq4 : Int) (xq5 : Int) (xq6 : Int) (w : World) => ∀ d : Fr, Q .ret (ov d [(4, .int .u64 xq4), (5, .int .i64 xq5), (6, .int .i64 xq6)]) w)
def j1tb : List (List Nat × Spec) := []
noncomputable def j1b : Code := (subC [1, 1, 1, 1, 0, 1] body).getD .skip
theorem j1_eq (At0 : Option Addr) (nt0 : Nat) (ct0 : Nat) (xt1 : Int) (xt7 : Int) (xt8 : Int) (Q : PQ) (σ : Fr) (w : World) :
    j1 At0 nt0 ct0 xt1 xt7 xt8 w (fun (xq7 : Int) (xq8 : Int) (w : World) => ∀ d : Fr, Q (.goto 0) (ov d [(0, .slice At0 nt0 ct0), (1, .int .i64 xt1), (7, .int .u64 xq7), (8, .int .i64 xq8)]) w) (fun (xq4 : Int) (xq5 : Int) (xq6 : Int) (w : World) => ∀ d : Fr, Q .ret (ov d [(4, .int .u64 xq4), (5, .int .i64 xq5), (6, .int .i64 xq6)]) w) = codeW Tryd.prog hT 59 D (tab j1tb) [1, 1, 1, 1, 0, 1] j1b (widen j1LO Q) (ov σ [(0, .slice At0 nt0 ct0), (1, .int .i64 xt1), (7, .int .u64 xt7), (8, .int .i64 xt8)]) w := by kernel_rfl
theorem j1_snd : ∀ c, subC [1, 1, 1, 1, 0, 1] body = some c → Snd Tryd.prog 59 c j1T := by
  refine cut_of (hT := hT) (D := D) (l := j1tb) (b := j1b) (lo := j1LO) (by kernel_rfl) (by
    intro x hx
    simp only [j1tb, List.not_mem_nil] at hx
    ) (by kernel_rfl) (by kernel_rfl) ?_
  intro Q σ w h
  unfold j1T at h
  obtain ⟨At0, nt0, ct0, h0, hn⟩ := gSlice_elim h
  clear h
  have h := hn
  clear hn
  obtain ⟨xt1, h1, hn⟩ := gInt_elim h
  clear h
  have h := hn
  clear hn
  obtain ⟨xt7, h7, hn⟩ := gInt_elim h
  clear h
  have h := hn
  clear hn
  obtain ⟨xt8, h8, hn⟩ := gInt_elim h
  clear h
  have h := hn
  clear hn
  rw [j1_eq (σ := σ)] at h
  have e : (ov σ [(0, .slice At0 nt0 ct0), (1, .int .i64 xt1), (7, .int .u64 xt7), (8, .int .i64 xt8)]) = σ := ov_self (by simp [h0, h1, h7, h8])
  rw [e] at h
  exact h
def s0LO : LO := ⟨[], [4, 5, 6], [], []⟩
def s0T : Spec := fun Q σ w =>
  gSlice (σ 0) fun At0 nt0 ct0 =>
  gInt .i64 (σ 1) fun xt1 =>
  s0 At0 nt0 ct0 xt1 w (fun (xq4 : Int) (xq5 : Int) (xq6 : Int) (w : World) => ∀ d : Fr, Q .ret (ov d [(4, .int .u64 xq4), (5, .int .i64 xq5), (6, .int .i64 xq6)]) w)
def s0tb : List (List Nat × Spec) := [([1, 1, 1, 1, 0, 1], j1T)]
def g0Tk (k : Nat) : Spec := fun Q σ w =>
  gSlice (σ 0) fun At0 nt0 ct0 =>
  gInt .i64 (σ 1) fun xt1 =>
  gInt .u64 (σ 7) fun xt7 =>
  gInt .i64 (σ 8) fun xt8 =>
  g0 k At0 nt0 ct0 xt1 xt7 xt8 w (fun (xq4 : Int) (xq5 : Int) (xq6 : Int) (w : World) => ∀ d : Fr, Q .ret (ov d [(4, .int .u64 xq4), (5, .int .i64 xq5), (6, .int .i64 xq6)]) w)
theorem g0_eq (k : Nat) (At0 : Option Addr) (nt0 : Nat) (ct0 : Nat) (xt1 : Int) (xt7 : Int) (xt8 : Int) (Q : PQ) (σ : Fr) (w : World) :
    g0 (k + 1) At0 nt0 ct0 xt1 xt7 xt8 w (fun (xq4 : Int) (xq5 : Int) (xq6 : Int) (w : World) => ∀ d : Fr, Q .ret (ov d [(4, .int .u64 xq4), (5, .int .i64 xq5), (6, .int .i64 xq6)]) w) = j1T (gotoQ 0 (g0Tk k Q) Q) (ov σ [(0, .slice At0 nt0 ct0), (1, .int .i64 xt1), (7, .int .u64 xt7), (8, .int .i64 xt8)]) w := by kernel_rfl
noncomputable def s0b : Code := (subC [0, 1] body).getD .skip
theorem s0_eq (At0 : Option Addr) (nt0 : Nat) (ct0 : Nat) (xt1 : Int) (Q : PQ) (σ : Fr) (w : World) :
    s0 At0 nt0 ct0 xt1 w (fun (xq4 : Int) (xq5 : Int) (xq6 : Int) (w : World) => ∀ d : Fr, Q .ret (ov d [(4, .int .u64 xq4), (5, .int .i64 xq5), (6, .int .i64 xq6)]) w) = codeW Tryd.prog hT 59 D (tab s0tb) [0, 1] s0b (gotoQ 0 (fun σ w => ∃ k, g0Tk k Q σ w) (widen s0LO Q)) (ov σ [(0, .slice At0 nt0 ct0), (1, .int .i64 xt1)]) w := by kernel_rfl
theorem s0_snd : ∀ c, subC [1] body = some c → Snd Tryd.prog 59 c s0T := by
  refine scope_of (hT := hT) (D := D) (l := s0tb) (b := s0b) (b' := j1b) (pb := [1, 1, 1, 1, 0, 1]) (lb := 0) (Tk := g0Tk) (Tb := j1T) (lo := s0LO) (by kernel_rfl) (by
    intro x hx
    simp only [s0tb, List.mem_cons, List.not_mem_nil, or_false] at hx
    subst hx
    exact j1_snd) (by kernel_rfl) (by kernel_rfl) (by kernel_rfl) (by kernel_rfl) j1_snd ?_ ?_ ?_
  · intro Q σ w h
    unfold g0Tk at h
    obtain ⟨At0, nt0, ct0, h0, hn⟩ := gSlice_elim h
    clear h
    have h := hn
    clear hn
    obtain ⟨xt1, h1, hn⟩ := gInt_elim h
    clear h
    have h := hn
    clear hn
    obtain ⟨xt7, h7, hn⟩ := gInt_elim h
    clear h
    have h := hn
    clear hn
    obtain ⟨xt8, h8, hn⟩ := gInt_elim h
    clear h
    have h := hn
    clear hn
    exact h
  · intro k Q σ w h
    unfold g0Tk at h
    obtain ⟨At0, nt0, ct0, h0, hn⟩ := gSlice_elim h
    clear h
    have h := hn
    clear hn
    obtain ⟨xt1, h1, hn⟩ := gInt_elim h
    clear h
    have h := hn
    clear hn
    obtain ⟨xt7, h7, hn⟩ := gInt_elim h
    clear h
    have h := hn
    clear hn
    obtain ⟨xt8, h8, hn⟩ := gInt_elim h
    clear h
    have h := hn
    clear hn
    rw [g0_eq (σ := σ)] at h
    have e : (ov σ [(0, .slice At0 nt0 ct0), (1, .int .i64 xt1), (7, .int .u64 xt7), (8, .int .i64 xt8)]) = σ := ov_self (by simp [h0, h1, h7, h8])
    rw [e] at h
    exact h
  · intro Q σ w h
    unfold s0T at h
    obtain ⟨At0, nt0, ct0, h0, hn⟩ := gSlice_elim h
    clear h
    have h := hn
    clear hn
    obtain ⟨xt1, h1, hn⟩ := gInt_elim h
    clear h
    have h := hn
    clear hn
    rw [s0_eq (σ := σ)] at h
    have e : (ov σ [(0, .slice At0 nt0 ct0), (1, .int .i64 xt1)]) = σ := ov_self (by simp [h0, h1])
    rw [e] at h
    exact h
def tb : List (List Nat × Spec) := [([1, 1, 1, 1, 0, 1], j1T), ([1], s0T)]
theorem wp_eq (Aa0 : Option Addr) (na0 : Nat) (ca0 : Nat) (xa1 : Int) (w : World) (Q : Ending → World → Prop) :
    wp Aa0 na0 ca0 xa1 w Q = codeW Tryd.prog hT 59 D (tab tb) [] body (topQ Tryd.prog hT 59 [.tmp 4, .tmp 5, .tmp 6] Q) (argsF [.slice Aa0 na0 ca0, .int .i64 xa1]) w := by kernel_rfl
theorem ok (Aa0 : Option Addr) (na0 : Nat) (ca0 : Nat) (xa1 : Int) (w : World) (Q : Ending → World → Prop) (h : wp Aa0 na0 ca0 xa1 w Q) : Calls Tryd.prog 84 #[.slice Aa0 na0 ca0, .int .i64 xa1] w Q := by
  rw [wp_eq] at h
  exact calls_of_codeW (c := body) (rs := [.tmp 4, .tmp 5, .tmp 6]) Tryd.func84 (by kernel_rfl) (by kernel_rfl) (by kernel_rfl) (by kernel_rfl) (by kernel_rfl) (tab_snd (by
    intro x hx
    simp only [tb, List.mem_cons, List.not_mem_nil, or_false] at hx
    rcases hx with rfl | rfl
    · exact j1_snd
    · exact s0_snd)) (by kernel_rfl) h
end f_num_Get
namespace f_num_GetText
/-! skein/num.GetText: function 67 -/
noncomputable def body : Code := (Tryd.f67.body).getD .skip
def wp (Aa0 : Option Addr) (na0 : Nat) (ca0 : Nat) (xa1 : Int) (xa2 : Int) (w : World) (Q : Ending → World → Prop) : Prop :=
  Calls Tryd.prog 84 #[.slice Aa0 na0 ca0, .int .i64 xa1] w fun e1 w2 => ∃ (x3_0 : Int) (x3_1 : Int) (x3_2 : Int), e1 = .returned (.tuple #[.int .u64 x3_0, .int .i64 x3_1, .int .i64 x3_2]) ∧ (
  sel (x3_2 != (0 : Int)) (
  Q (.returned (.tuple #[.slice none 0 0, .int .i64 (0 : Int), .int .i64 x3_2])) w2) (
  sel (decide (x3_0 > (IntKind.u64.wrap (if (0 : Int) > xa2 then (0 : Int) else xa2)))) (
  Q (.returned (.tuple #[.slice none 0 0, .int .i64 (0 : Int), .int .i64 (4 : Int)])) w2) (
  sel (decide (x3_0 > (IntKind.u64.wrap (IntKind.i64.wrap ((na0 : Int) - x3_1))))) (
  Q (.returned (.tuple #[.slice none 0 0, .int .i64 (0 : Int), .int .i64 (2 : Int)])) w2) (
  req (decide (0 ≤ (IntKind.i64.wrap (x3_1 + (IntKind.i64.wrap x3_0))) ∧ (IntKind.i64.wrap (x3_1 + (IntKind.i64.wrap x3_0))) ≤ (ca0 : Int))) <|
  req (decide (0 ≤ x3_1 ∧ x3_1 ≤ ((IntKind.i64.wrap (x3_1 + (IntKind.i64.wrap x3_0))).toNat : Int))) <|
  Calls Tryd.prog 33 #[.slice (slA Aa0 x3_1.toNat ca0 1) ((IntKind.i64.wrap (x3_1 + (IntKind.i64.wrap x3_0))).toNat - x3_1.toNat) (ca0 - x3_1.toNat)] w2 fun e4 w5 => ∃ (A6 : Option Addr) (n6 : Nat) (c6 : Nat), e4 = .returned (.slice A6 n6 c6) ∧ (
  Q (.returned (.tuple #[.slice A6 n6 c6, .int .i64 (IntKind.i64.wrap (x3_1 + (IntKind.i64.wrap x3_0))), .int .i64 (0 : Int)])) w5)))))
def D : Nat → Option DH := dtab []
def tb : List (List Nat × Spec) := []
theorem wp_eq (Aa0 : Option Addr) (na0 : Nat) (ca0 : Nat) (xa1 : Int) (xa2 : Int) (w : World) (Q : Ending → World → Prop) :
    wp Aa0 na0 ca0 xa1 xa2 w Q = codeW Tryd.prog hT 48 D (tab tb) [] body (topQ Tryd.prog hT 48 [.tmp 6, .tmp 7, .tmp 8] Q) (argsF [.slice Aa0 na0 ca0, .int .i64 xa1, .int .i64 xa2]) w := by kernel_rfl
theorem ok (Aa0 : Option Addr) (na0 : Nat) (ca0 : Nat) (xa1 : Int) (xa2 : Int) (w : World) (Q : Ending → World → Prop) (h : wp Aa0 na0 ca0 xa1 xa2 w Q) : Calls Tryd.prog 67 #[.slice Aa0 na0 ca0, .int .i64 xa1, .int .i64 xa2] w Q := by
  rw [wp_eq] at h
  exact calls_of_codeW (c := body) (rs := [.tmp 6, .tmp 7, .tmp 8]) Tryd.func67 (by kernel_rfl) (by kernel_rfl) (by kernel_rfl) (by kernel_rfl) (by kernel_rfl) (tab_snd (by
    intro x hx
    simp only [tb, List.not_mem_nil] at hx
    )) (by kernel_rfl) h
end f_num_GetText
end Go.Proofs.YtpokaafedpnbdaaDoor.Rd
