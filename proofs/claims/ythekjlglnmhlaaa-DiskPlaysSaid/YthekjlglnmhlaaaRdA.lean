/- The printed readings of some functions: each function's code reckoned by the kernel to its predicate transformer. -/
import Derived.Test.YthekjlglnmhlaaaHint
namespace Go.Proofs.Ythekjlglnmhlaaa.Rd
open Go.Dn
set_option maxRecDepth 100000
set_option linter.unusedVariables false
namespace f_disk_New
/-! skein/disk.New: function 10 -/
noncomputable def body : Code := (Try.f10.body).getD .skip
def wp (xa0 : Int) (w : World) (Q : Ending → World → Prop) : Prop :=
  Runs Try.prog (Instr.makeSlice 65 (.int .i64 (if (4096 : Int) < (if (0 : Int) > xa0 then (0 : Int) else xa0) then (4096 : Int) else (if (0 : Int) > xa0 then (0 : Int) else xa0))) (.int .i64 (if (4096 : Int) < (if (0 : Int) > xa0 then (0 : Int) else xa0) then (4096 : Int) else (if (0 : Int) > xa0 then (0 : Int) else xa0)))) w fun v2 w1 => ∃ (A3 : Option Addr) (n3 : Nat) (c3 : Nat), v2 = (.slice A3 n3 c3) ∧ (
  alW w1 (.map #[] 0) fun B4 w5 =>
  alW w5 (.cells #[.slice A3 n3 c3, .map (some B4), .slice none 0 0, .int .i64 (0 : Int), .bool false] 68) fun B6 w7 =>
  Q (.returned (.pointer (some (⟨B6, 0, Option.none⟩ : Addr)))) w7)
def D : Nat → Option DH := dtab []
def tb : List (List Nat × Spec) := []
theorem wp_eq (xa0 : Int) (w : World) (Q : Ending → World → Prop) :
    wp xa0 w Q = codeW Try.prog hT 10 D (tab tb) [] body (topQ Try.prog hT 10 [.tmp 2] Q) (argsF [.int .i64 xa0]) w := by kernel_rfl
theorem ok (xa0 : Int) (w : World) (Q : Ending → World → Prop) (h : wp xa0 w Q) : Calls Try.prog 10 #[.int .i64 xa0] w Q := by
  rw [wp_eq] at h
  exact calls_of_codeW (c := body) (rs := [.tmp 2]) Try.func10 (by kernel_rfl) (by kernel_rfl) (by kernel_rfl) (by kernel_rfl) (by kernel_rfl) (tab_snd (by
    intro x hx
    simp only [tb, List.not_mem_nil] at hx
    )) (by kernel_rfl) h
end f_disk_New
namespace f_disk_Disk_Size
/-! (*skein/disk.Disk).Size: function 12 -/
noncomputable def body : Code := (Try.f12.body).getD .skip
def wp (aa0 : Addr) (w : World) (Q : Ending → World → Prop) : Prop :=
  ldS w aa0 fun A1 n1 c1 =>
  Q (.returned (.int .i64 (n1 : Int))) w
def D : Nat → Option DH := dtab []
def tb : List (List Nat × Spec) := []
theorem wp_eq (aa0 : Addr) (w : World) (Q : Ending → World → Prop) :
    wp aa0 w Q = codeW Try.prog hT 8 D (tab tb) [] body (topQ Try.prog hT 8 [.tmp 2] Q) (argsF [.pointer (some aa0)]) w := by kernel_rfl
theorem ok (aa0 : Addr) (w : World) (Q : Ending → World → Prop) (h : wp aa0 w Q) : Calls Try.prog 12 #[.pointer (some aa0)] w Q := by
  rw [wp_eq] at h
  exact calls_of_codeW (c := body) (rs := [.tmp 2]) Try.func12 (by kernel_rfl) (by kernel_rfl) (by kernel_rfl) (by kernel_rfl) (by kernel_rfl) (tab_snd (by
    intro x hx
    simp only [tb, List.not_mem_nil] at hx
    )) (by kernel_rfl) h
end f_disk_Disk_Size
namespace f_disk_Disk_Loose
/-! (*skein/disk.Disk).Loose: function 13 -/
noncomputable def body : Code := (Try.f13.body).getD .skip
def wp (aa0 : Addr) (w : World) (Q : Ending → World → Prop) : Prop :=
  ldM w (aa0.add 1) fun m1 =>
  Calls Try.prog 38 #[.map m1] w fun e2 w3 => ∃ (v4 : Value), e2 = .returned (v4) ∧ (
  Calls Try.prog 37 #[v4] w3 fun e5 w6 => ∃ (A7 : Option Addr) (n7 : Nat) (c7 : Nat), e5 = .returned (.slice A7 n7 c7) ∧ (
  Q (.returned (.slice A7 n7 c7)) w6))
def D : Nat → Option DH := dtab []
def tb : List (List Nat × Spec) := []
theorem wp_eq (aa0 : Addr) (w : World) (Q : Ending → World → Prop) :
    wp aa0 w Q = codeW Try.prog hT 9 D (tab tb) [] body (topQ Try.prog hT 9 [.tmp 2] Q) (argsF [.pointer (some aa0)]) w := by kernel_rfl
theorem ok (aa0 : Addr) (w : World) (Q : Ending → World → Prop) (h : wp aa0 w Q) : Calls Try.prog 13 #[.pointer (some aa0)] w Q := by
  rw [wp_eq] at h
  exact calls_of_codeW (c := body) (rs := [.tmp 2]) Try.func13 (by kernel_rfl) (by kernel_rfl) (by kernel_rfl) (by kernel_rfl) (by kernel_rfl) (tab_snd (by
    intro x hx
    simp only [tb, List.not_mem_nil] at hx
    )) (by kernel_rfl) h
end f_disk_Disk_Loose
namespace f_disk_Disk_Steps
/-! (*skein/disk.Disk).Steps: function 14 -/
noncomputable def body : Code := (Try.f14.body).getD .skip
def wp (aa0 : Addr) (w : World) (Q : Ending → World → Prop) : Prop :=
  ldI w (aa0.add 3) .i64 fun x1 =>
  Q (.returned (.int .i64 x1)) w
def D : Nat → Option DH := dtab []
def tb : List (List Nat × Spec) := []
theorem wp_eq (aa0 : Addr) (w : World) (Q : Ending → World → Prop) :
    wp aa0 w Q = codeW Try.prog hT 7 D (tab tb) [] body (topQ Try.prog hT 7 [.tmp 2] Q) (argsF [.pointer (some aa0)]) w := by kernel_rfl
theorem ok (aa0 : Addr) (w : World) (Q : Ending → World → Prop) (h : wp aa0 w Q) : Calls Try.prog 14 #[.pointer (some aa0)] w Q := by
  rw [wp_eq] at h
  exact calls_of_codeW (c := body) (rs := [.tmp 2]) Try.func14 (by kernel_rfl) (by kernel_rfl) (by kernel_rfl) (by kernel_rfl) (by kernel_rfl) (tab_snd (by
    intro x hx
    simp only [tb, List.not_mem_nil] at hx
    )) (by kernel_rfl) h
end f_disk_Disk_Steps
namespace f_disk_Disk_Power
/-! (*skein/disk.Disk).Power: function 15 -/
noncomputable def body : Code := (Try.f15.body).getD .skip
def wp (aa0 : Addr) (w : World) (Q : Ending → World → Prop) : Prop :=
  ldB w (aa0.add 4) fun b1 =>
  Q (.returned (.bool (!b1))) w
def D : Nat → Option DH := dtab []
def tb : List (List Nat × Spec) := []
theorem wp_eq (aa0 : Addr) (w : World) (Q : Ending → World → Prop) :
    wp aa0 w Q = codeW Try.prog hT 8 D (tab tb) [] body (topQ Try.prog hT 8 [.tmp 2] Q) (argsF [.pointer (some aa0)]) w := by kernel_rfl
theorem ok (aa0 : Addr) (w : World) (Q : Ending → World → Prop) (h : wp aa0 w Q) : Calls Try.prog 15 #[.pointer (some aa0)] w Q := by
  rw [wp_eq] at h
  exact calls_of_codeW (c := body) (rs := [.tmp 2]) Try.func15 (by kernel_rfl) (by kernel_rfl) (by kernel_rfl) (by kernel_rfl) (by kernel_rfl) (tab_snd (by
    intro x hx
    simp only [tb, List.not_mem_nil] at hx
    )) (by kernel_rfl) h
end f_disk_Disk_Power
namespace f_disk_Disk_Write
/-! (*skein/disk.Disk).Write: function 16 -/
noncomputable def body : Code := (Try.f16.body).getD .skip
def wp (aa0 : Addr) (xa1 : Int) (Aa2 : Option Addr) (na2 : Nat) (ca2 : Nat) (w : World) (Q : Ending → World → Prop) : Prop :=
  alW w (.cells #[.pointer (some aa0)] 23) fun B1 w2 =>
  alW w2 (.cells #[.int .i64 xa1] 3) fun B3 w4 =>
  alW w4 (.cells #[.slice Aa2 na2 ca2] 35) fun B5 w6 =>
  ldP w6 (⟨B1, 0, Option.none⟩ : Addr) fun p7 =>
  optB p7 fun a8 =>
  ldB w6 (a8.add 4) fun b9 =>
  sel b9 (
  Q (.returned (.int .i64 (70 : Int))) w6) (
  drW w6 fun w10 =>
  ldI w10 (⟨B3, 0, Option.none⟩ : Addr) .i64 fun x12 =>
  sel (decide (x12 < (0 : Int))) (
  Q (.returned (.int .i64 (1 : Int))) w10) (
  ldI w10 (⟨B3, 0, Option.none⟩ : Addr) .i64 fun x13 =>
  ldP w10 (⟨B1, 0, Option.none⟩ : Addr) fun p14 =>
  optB p14 fun a15 =>
  ldS w10 a15 fun A16 n16 c16 =>
  sel (decide (x13 ≥ (n16 : Int))) (
  Q (.returned (.int .i64 (1 : Int))) w10) (
  ldS w10 (⟨B5, 0, Option.none⟩ : Addr) fun A17 n17 c17 =>
  sel (decide ((n17 : Int) > (512 : Int))) (
  Q (.returned (.int .i64 (1 : Int))) w10) (
  ldP w10 (⟨B1, 0, Option.none⟩ : Addr) fun p18 =>
  Calls Try.prog 39 #[.pointer p18, .func (.func 40) #[] #[.pointer (some (⟨B5, 0, Option.none⟩ : Addr)), .pointer (some (⟨B1, 0, Option.none⟩ : Addr)), .pointer (some (⟨B3, 0, Option.none⟩ : Addr))]] w10 fun e19 w20 => ∃ (x21 : Int), e19 = .returned (.int .i64 x21) ∧ (
  Q (.returned (.int .i64 x21)) w20)))))
def D : Nat → Option DH := dtab [(3, .simple [.fst 0, .fst 1, .fst 2, .fst 3, .fst 4, .fst 5, .fst 6, .fst 7, .fst 8, .fst 9, .fst 10, .fst 11, .fst 12] [.fst 13, .fst 14, .fst 15, .fst 16])]
def tb : List (List Nat × Spec) := []
theorem wp_eq (aa0 : Addr) (xa1 : Int) (Aa2 : Option Addr) (na2 : Nat) (ca2 : Nat) (w : World) (Q : Ending → World → Prop) :
    wp aa0 xa1 Aa2 na2 ca2 w Q = codeW Try.prog hT 32 D (tab tb) [] body (topQ Try.prog hT 32 [.tmp 6] Q) (argsF [.pointer (some aa0), .int .i64 xa1, .slice Aa2 na2 ca2]) w := by kernel_rfl
theorem ok (aa0 : Addr) (xa1 : Int) (Aa2 : Option Addr) (na2 : Nat) (ca2 : Nat) (w : World) (Q : Ending → World → Prop) (h : wp aa0 xa1 Aa2 na2 ca2 w Q) : Calls Try.prog 16 #[.pointer (some aa0), .int .i64 xa1, .slice Aa2 na2 ca2] w Q := by
  rw [wp_eq] at h
  exact calls_of_codeW (c := body) (rs := [.tmp 6]) Try.func16 (by kernel_rfl) (by kernel_rfl) (by kernel_rfl) (by kernel_rfl) (by kernel_rfl) (tab_snd (by
    intro x hx
    simp only [tb, List.not_mem_nil] at hx
    )) (by kernel_rfl) h
end f_disk_Disk_Write
namespace f_disk_Disk_Read
/-! (*skein/disk.Disk).Read: function 17 -/
noncomputable def body : Code := (Try.f17.body).getD .skip
def wp (aa0 : Addr) (xa1 : Int) (w : World) (Q : Ending → World → Prop) : Prop :=
  ldB w (aa0.add 4) fun b1 =>
  sel b1 (
  Q (.returned (.tuple #[.slice none 0 0, .int .i64 (70 : Int)])) w) (
  sel (decide (xa1 < (0 : Int))) (
  Q (.returned (.tuple #[.slice none 0 0, .int .i64 (1 : Int)])) w) (
  ldS w aa0 fun A2 n2 c2 =>
  sel (decide (xa1 ≥ (n2 : Int))) (
  Q (.returned (.tuple #[.slice none 0 0, .int .i64 (1 : Int)])) w) (
  Calls Try.prog 41 #[.pointer (some aa0), .int .i64 xa1] w fun e3 w4 => ∃ (cs5 : Array Value), e3 = .returned (.agg cs5) ∧ (
  alW w4 (.cells (zeroCs Try.prog 76) 76) fun B6 w7 =>
  Runs Try.prog (Instr.storeAt 76 (.pointer (some (⟨B6, 0, Option.none⟩ : Addr))) (.agg cs5)) w7 fun _ w8 =>
  Q (.returned (.tuple #[.slice (some (slB (⟨B6, 0, Option.none⟩ : Addr) 0 512 1)) (512 - 0) (512 - 0), .int .i64 (0 : Int)])) w8))))
def D : Nat → Option DH := dtab []
def tb : List (List Nat × Spec) := []
theorem wp_eq (aa0 : Addr) (xa1 : Int) (w : World) (Q : Ending → World → Prop) :
    wp aa0 xa1 w Q = codeW Try.prog hT 28 D (tab tb) [] body (topQ Try.prog hT 28 [.tmp 4, .tmp 5] Q) (argsF [.pointer (some aa0), .int .i64 xa1]) w := by kernel_rfl
theorem ok (aa0 : Addr) (xa1 : Int) (w : World) (Q : Ending → World → Prop) (h : wp aa0 xa1 w Q) : Calls Try.prog 17 #[.pointer (some aa0), .int .i64 xa1] w Q := by
  rw [wp_eq] at h
  exact calls_of_codeW (c := body) (rs := [.tmp 4, .tmp 5]) Try.func17 (by kernel_rfl) (by kernel_rfl) (by kernel_rfl) (by kernel_rfl) (by kernel_rfl) (tab_snd (by
    intro x hx
    simp only [tb, List.not_mem_nil] at hx
    )) (by kernel_rfl) h
end f_disk_Disk_Read
namespace f_disk_Disk_Sync
/-! (*skein/disk.Disk).Sync: function 20 -/
noncomputable def body : Code := (Try.f20.body).getD .skip
def wp (aa0 : Addr) (w : World) (Q : Ending → World → Prop) : Prop :=
  alW w (.cells #[.pointer (some aa0)] 23) fun B1 w2 =>
  ldP w2 (⟨B1, 0, Option.none⟩ : Addr) fun p3 =>
  optB p3 fun a4 =>
  ldB w2 (a4.add 4) fun b5 =>
  sel b5 (
  Q (.returned (.int .i64 (70 : Int))) w2) (
  ldP w2 (⟨B1, 0, Option.none⟩ : Addr) fun p6 =>
  Calls Try.prog 39 #[.pointer p6, .func (.func 42) #[] #[.pointer (some (⟨B1, 0, Option.none⟩ : Addr))]] w2 fun e7 w8 => ∃ (x9 : Int), e7 = .returned (.int .i64 x9) ∧ (
  Q (.returned (.int .i64 x9)) w8))
def D : Nat → Option DH := dtab []
def tb : List (List Nat × Spec) := []
theorem wp_eq (aa0 : Addr) (w : World) (Q : Ending → World → Prop) :
    wp aa0 w Q = codeW Try.prog hT 10 D (tab tb) [] body (topQ Try.prog hT 10 [.tmp 2] Q) (argsF [.pointer (some aa0)]) w := by kernel_rfl
theorem ok (aa0 : Addr) (w : World) (Q : Ending → World → Prop) (h : wp aa0 w Q) : Calls Try.prog 20 #[.pointer (some aa0)] w Q := by
  rw [wp_eq] at h
  exact calls_of_codeW (c := body) (rs := [.tmp 2]) Try.func20 (by kernel_rfl) (by kernel_rfl) (by kernel_rfl) (by kernel_rfl) (by kernel_rfl) (tab_snd (by
    intro x hx
    simp only [tb, List.not_mem_nil] at hx
    )) (by kernel_rfl) h
end f_disk_Disk_Sync
namespace f_disk_Disk_On
/-! (*skein/disk.Disk).On: function 21 -/
noncomputable def body : Code := (Try.f21.body).getD .skip
def l0 : Nat → Addr → Option Addr → Nat → Nat → Int → Int → World → (World → Prop) → Prop
  | 0, _, _, _, _, _, _, _, _ => False
  | k + 1, at0, At6, nt6, ct6, xt7, xt8, w, K0 =>
    sel (decide (xt8 < xt7)) (
    optB At6 fun a1 =>
    req (decide (0 ≤ xt8 ∧ xt8 < (nt6 : Int))) <|
    ldI w (a1.add (xt8.toNat * 1)) .i64 fun x2 =>
    sel (decide (x2 ≥ (0 : Int))) (
    ldS w at0 fun A3 n3 c3 =>
    sel (decide (x2 < (n3 : Int))) (
    Calls Try.prog 43 #[.pointer (some at0), .int .i64 x2] w fun e4 w5 => e4 = .returned (.tuple #[]) ∧ (
    l0 k at0 At6 nt6 ct6 xt7 (IntKind.i64.wrap (xt8 + (1 : Int))) w5 K0)) (
    l0 k at0 At6 nt6 ct6 xt7 (IntKind.i64.wrap (xt8 + (1 : Int))) w K0)) (
    l0 k at0 At6 nt6 ct6 xt7 (IntKind.i64.wrap (xt8 + (1 : Int))) w K0)) (
    K0  w)
def wp (aa0 : Addr) (Aa1 : Option Addr) (na1 : Nat) (ca1 : Nat) (w : World) (Q : Ending → World → Prop) : Prop :=
  ∃ k11 : Nat, l0 k11 aa0 Aa1 na1 ca1 (na1 : Int) (0 : Int) w (fun (w6 : World) => ∀ _ : Fr,
  ldM w6 (aa0.add 1) fun m7 =>
  Runs Try.prog (Builtin.clear_ #[66] 0 #[.map m7]) w6 fun v9 w8 => v9 = (.tuple #[]) ∧ (
  stW w8 (aa0.add 4) (.bool false) fun w10 =>
  Q (.returned (.tuple #[])) w10))
def D : Nat → Option DH := dtab []
def l0LO : LO := ⟨[], [], [(0, [0])], []⟩
def l0Tk (k : Nat) : Spec := fun Q σ w =>
  gAd (σ 0) fun at0 =>
  gSlice (σ 6) fun At6 nt6 ct6 =>
  gInt .i64 (σ 7) fun xt7 =>
  gInt .i64 (σ 8) fun xt8 =>
  l0 k at0 At6 nt6 ct6 xt7 xt8 w (fun (w : World) => ∀ d : Fr, Q (.exit 0) (ov d [(0, .pointer (some at0))]) w)
def l0T : Spec := fun Q σ w => ∃ k, l0Tk k Q σ w
def l0tb : List (List Nat × Spec) := []
noncomputable def l0b : Code := (subC [0, 0, 1, 0] body).getD .skip
theorem l0_eq (k : Nat) (at0 : Addr) (At6 : Option Addr) (nt6 : Nat) (ct6 : Nat) (xt7 : Int) (xt8 : Int) (Q : PQ) (σ : Fr) (w : World) :
    l0 (k + 1) at0 At6 nt6 ct6 xt7 xt8 w (fun (w : World) => ∀ d : Fr, Q (.exit 0) (ov d [(0, .pointer (some at0))]) w) = codeW Try.prog hT 34 D (tab l0tb) [0, 0, 1, 0] l0b (thenQ (l0Tk k Q) (widen l0LO Q)) (ov σ [(0, .pointer (some at0)), (6, .slice At6 nt6 ct6), (7, .int .i64 xt7), (8, .int .i64 xt8)]) w := by kernel_rfl
theorem l0_snd : ∀ c, subC [0, 1, 0] body = some c → Snd Try.prog 34 c l0T := by
  refine loop_of (hT := hT) (D := D) (l := l0tb) (b := l0b) (lo := l0LO) (by kernel_rfl) (by
    intro x hx
    simp only [l0tb, List.not_mem_nil] at hx
    ) (by kernel_rfl) (by kernel_rfl) ?_ ?_
  · intro Q σ w h
    unfold l0Tk at h
    obtain ⟨at0, h0, hn⟩ := gAd_elim h
    clear h
    have h := hn
    clear hn
    obtain ⟨At6, nt6, ct6, h6, hn⟩ := gSlice_elim h
    clear h
    have h := hn
    clear hn
    obtain ⟨xt7, h7, hn⟩ := gInt_elim h
    clear h
    have h := hn
    clear hn
    obtain ⟨xt8, h8, hn⟩ := gInt_elim h
    clear h
    have h := hn
    clear hn
    exact h
  · intro k Q σ w h
    unfold l0Tk at h
    obtain ⟨at0, h0, hn⟩ := gAd_elim h
    clear h
    have h := hn
    clear hn
    obtain ⟨At6, nt6, ct6, h6, hn⟩ := gSlice_elim h
    clear h
    have h := hn
    clear hn
    obtain ⟨xt7, h7, hn⟩ := gInt_elim h
    clear h
    have h := hn
    clear hn
    obtain ⟨xt8, h8, hn⟩ := gInt_elim h
    clear h
    have h := hn
    clear hn
    rw [l0_eq (σ := σ)] at h
    have e : (ov σ [(0, .pointer (some at0)), (6, .slice At6 nt6 ct6), (7, .int .i64 xt7), (8, .int .i64 xt8)]) = σ := ov_self (by simp [h0, h6, h7, h8])
    rw [e] at h
    exact h
def tb : List (List Nat × Spec) := [([0, 1, 0], l0T)]
theorem wp_eq (aa0 : Addr) (Aa1 : Option Addr) (na1 : Nat) (ca1 : Nat) (w : World) (Q : Ending → World → Prop) :
    wp aa0 Aa1 na1 ca1 w Q = codeW Try.prog hT 34 D (tab tb) [] body (topQ Try.prog hT 34 [] Q) (argsF [.pointer (some aa0), .slice Aa1 na1 ca1]) w := by kernel_rfl
theorem ok (aa0 : Addr) (Aa1 : Option Addr) (na1 : Nat) (ca1 : Nat) (w : World) (Q : Ending → World → Prop) (h : wp aa0 Aa1 na1 ca1 w Q) : Calls Try.prog 21 #[.pointer (some aa0), .slice Aa1 na1 ca1] w Q := by
  rw [wp_eq] at h
  exact calls_of_codeW (c := body) (rs := []) Try.func21 (by kernel_rfl) (by kernel_rfl) (by kernel_rfl) (by kernel_rfl) (by kernel_rfl) (tab_snd (by
    intro x hx
    simp only [tb, List.mem_cons, List.not_mem_nil, or_false] at hx
    subst hx
    exact l0_snd)) (by kernel_rfl) h
end f_disk_Disk_On
namespace f_disk_Disk_Plan
/-! (*skein/disk.Disk).Plan: function 24 -/
noncomputable def body : Code := (Try.f24.body).getD .skip
def wp (aa0 : Addr) (Aa1 : Option Addr) (na1 : Nat) (ca1 : Nat) (w : World) (Q : Ending → World → Prop) : Prop :=
  Calls Try.prog 44 #[.slice Aa1 na1 ca1] w fun e1 w2 => ∃ (A3 : Option Addr) (n3 : Nat) (c3 : Nat), e1 = .returned (.slice A3 n3 c3) ∧ (
  stW w2 (aa0.add 2) (.slice A3 n3 c3) fun w4 =>
  Q (.returned (.tuple #[])) w4)
def D : Nat → Option DH := dtab []
def tb : List (List Nat × Spec) := []
theorem wp_eq (aa0 : Addr) (Aa1 : Option Addr) (na1 : Nat) (ca1 : Nat) (w : World) (Q : Ending → World → Prop) :
    wp aa0 Aa1 na1 ca1 w Q = codeW Try.prog hT 9 D (tab tb) [] body (topQ Try.prog hT 9 [] Q) (argsF [.pointer (some aa0), .slice Aa1 na1 ca1]) w := by kernel_rfl
theorem ok (aa0 : Addr) (Aa1 : Option Addr) (na1 : Nat) (ca1 : Nat) (w : World) (Q : Ending → World → Prop) (h : wp aa0 Aa1 na1 ca1 w Q) : Calls Try.prog 24 #[.pointer (some aa0), .slice Aa1 na1 ca1] w Q := by
  rw [wp_eq] at h
  exact calls_of_codeW (c := body) (rs := []) Try.func24 (by kernel_rfl) (by kernel_rfl) (by kernel_rfl) (by kernel_rfl) (by kernel_rfl) (tab_snd (by
    intro x hx
    simp only [tb, List.not_mem_nil] at hx
    )) (by kernel_rfl) h
end f_disk_Disk_Plan
namespace f_disk_Load
/-! skein/disk.Load: function 25 -/
noncomputable def body : Code := (Try.f25.body).getD .skip
def l0 : Nat → Option Addr → Nat → Nat → Option Addr → Int → Int → World → (World → Prop) → Prop
  | 0, _, _, _, _, _, _, _, _ => False
  | k + 1, At0, nt0, ct0, pt3, xt15, xt16, w, K0 =>
    sel (decide (xt16 < xt15)) (
    drW w fun w6 =>
    optB pt3 fun a8 =>
    ldS w6 a8 fun A9 n9 c9 =>
    optB A9 fun a10 =>
    req (decide (0 ≤ xt16 ∧ xt16 < (n9 : Int))) <|
    req (decide (0 ≤ (IntKind.i64.wrap (xt16 * (512 : Int))) ∧ (IntKind.i64.wrap (xt16 * (512 : Int))) ≤ (nt0 : Int))) <|
    Runs Try.prog (Builtin.copy_ #[35, 35] 3 #[.slice (some (slB (a10.add (xt16.toNat * 512)) 0 512 1)) (512 - 0) (512 - 0), .slice (slA At0 ((IntKind.i64.wrap (xt16 * (512 : Int))).toNat) ct0 1) (nt0 - (IntKind.i64.wrap (xt16 * (512 : Int))).toNat) (ct0 - (IntKind.i64.wrap (xt16 * (512 : Int))).toNat)]) w6 fun v12 w11 => ∃ (x13 : Int), v12 = (.int .i64 x13) ∧ (
    l0 k At0 nt0 ct0 pt3 xt15 (IntKind.i64.wrap (xt16 + (1 : Int))) w11 K0)) (
    K0  w)
def wp (Aa0 : Option Addr) (na0 : Nat) (ca0 : Nat) (w : World) (Q : Ending → World → Prop) : Prop :=
  Calls Try.prog 10 #[.int .i64 (IntKind.i64.wrap ((IntKind.i64.wrap ((IntKind.i64.wrap ((na0 : Int) + (512 : Int))) - (1 : Int))).tdiv (512 : Int)))] w fun e1 w2 => ∃ (p3 : Option Addr), e1 = .returned (.pointer p3) ∧ (
  optB p3 fun a4 =>
  ldS w2 a4 fun A5 n5 c5 =>
  ∃ k15 : Nat, l0 k15 Aa0 na0 ca0 p3 (n5 : Int) (0 : Int) w2 (fun (w14 : World) => ∀ _ : Fr,
  Q (.returned (.pointer p3)) w14))
def D : Nat → Option DH := dtab [(5, .simple [.fst 0, .fst 1, .fst 2, .fst 3, .fst 4, .fst 5, .fst 6, .fst 7, .fst 8, .fst 9, .fst 10] [.eff 11])]
def l0LO : LO := ⟨[], [], [(0, [3])], []⟩
def l0Tk (k : Nat) : Spec := fun Q σ w =>
  gSlice (σ 0) fun At0 nt0 ct0 =>
  gPtr (σ 3) fun pt3 =>
  gInt .i64 (σ 15) fun xt15 =>
  gInt .i64 (σ 16) fun xt16 =>
  l0 k At0 nt0 ct0 pt3 xt15 xt16 w (fun (w : World) => ∀ d : Fr, Q (.exit 0) (ov d [(3, .pointer pt3)]) w)
def l0T : Spec := fun Q σ w => ∃ k, l0Tk k Q σ w
def l0tb : List (List Nat × Spec) := []
noncomputable def l0b : Code := (subC [0, 0, 1, 0, 1, 1] body).getD .skip
theorem l0_eq (k : Nat) (At0 : Option Addr) (nt0 : Nat) (ct0 : Nat) (pt3 : Option Addr) (xt15 : Int) (xt16 : Int) (Q : PQ) (σ : Fr) (w : World) :
    l0 (k + 1) At0 nt0 ct0 pt3 xt15 xt16 w (fun (w : World) => ∀ d : Fr, Q (.exit 0) (ov d [(3, .pointer pt3)]) w) = codeW Try.prog hT 33 D (tab l0tb) [0, 0, 1, 0, 1, 1] l0b (thenQ (l0Tk k Q) (widen l0LO Q)) (ov σ [(0, .slice At0 nt0 ct0), (3, .pointer pt3), (15, .int .i64 xt15), (16, .int .i64 xt16)]) w := by kernel_rfl
theorem l0_snd : ∀ c, subC [0, 1, 0, 1, 1] body = some c → Snd Try.prog 33 c l0T := by
  refine loop_of (hT := hT) (D := D) (l := l0tb) (b := l0b) (lo := l0LO) (by kernel_rfl) (by
    intro x hx
    simp only [l0tb, List.not_mem_nil] at hx
    ) (by kernel_rfl) (by kernel_rfl) ?_ ?_
  · intro Q σ w h
    unfold l0Tk at h
    obtain ⟨At0, nt0, ct0, h0, hn⟩ := gSlice_elim h
    clear h
    have h := hn
    clear hn
    obtain ⟨pt3, h3, hn⟩ := gPtr_elim h
    clear h
    have h := hn
    clear hn
    obtain ⟨xt15, h15, hn⟩ := gInt_elim h
    clear h
    have h := hn
    clear hn
    obtain ⟨xt16, h16, hn⟩ := gInt_elim h
    clear h
    have h := hn
    clear hn
    exact h
  · intro k Q σ w h
    unfold l0Tk at h
    obtain ⟨At0, nt0, ct0, h0, hn⟩ := gSlice_elim h
    clear h
    have h := hn
    clear hn
    obtain ⟨pt3, h3, hn⟩ := gPtr_elim h
    clear h
    have h := hn
    clear hn
    obtain ⟨xt15, h15, hn⟩ := gInt_elim h
    clear h
    have h := hn
    clear hn
    obtain ⟨xt16, h16, hn⟩ := gInt_elim h
    clear h
    have h := hn
    clear hn
    rw [l0_eq (σ := σ)] at h
    have e : (ov σ [(0, .slice At0 nt0 ct0), (3, .pointer pt3), (15, .int .i64 xt15), (16, .int .i64 xt16)]) = σ := ov_self (by simp [h0, h3, h15, h16])
    rw [e] at h
    exact h
def tb : List (List Nat × Spec) := [([0, 1, 0, 1, 1], l0T)]
theorem wp_eq (Aa0 : Option Addr) (na0 : Nat) (ca0 : Nat) (w : World) (Q : Ending → World → Prop) :
    wp Aa0 na0 ca0 w Q = codeW Try.prog hT 33 D (tab tb) [] body (topQ Try.prog hT 33 [.tmp 2] Q) (argsF [.slice Aa0 na0 ca0]) w := by kernel_rfl
theorem ok (Aa0 : Option Addr) (na0 : Nat) (ca0 : Nat) (w : World) (Q : Ending → World → Prop) (h : wp Aa0 na0 ca0 w Q) : Calls Try.prog 25 #[.slice Aa0 na0 ca0] w Q := by
  rw [wp_eq] at h
  exact calls_of_codeW (c := body) (rs := [.tmp 2]) Try.func25 (by kernel_rfl) (by kernel_rfl) (by kernel_rfl) (by kernel_rfl) (by kernel_rfl) (tab_snd (by
    intro x hx
    simp only [tb, List.mem_cons, List.not_mem_nil, or_false] at hx
    subst hx
    exact l0_snd)) (by kernel_rfl) h
end f_disk_Load
namespace f_disk_Disk_All
/-! (*skein/disk.Disk).All: function 26 -/
noncomputable def body : Code := (Try.f26.body).getD .skip
def l0 : Nat → Addr → Option Addr → Nat → Nat → Int → Int → World → ((Option Addr) → Nat → Nat → World → Prop) → Prop
  | 0, _, _, _, _, _, _, _, _ => False
  | k + 1, at0, At3, nt3, ct3, xt10, xt11, w, K0 =>
    sel (decide (xt11 < xt10)) (
    Calls Try.prog 41 #[.pointer (some at0), .int .i64 xt11] w fun e2 w3 => ∃ (cs4 : Array Value), e2 = .returned (.agg cs4) ∧ (
    alW w3 (.cells (zeroCs Try.prog 76) 76) fun B5 w6 =>
    Runs Try.prog (Instr.storeAt 76 (.pointer (some (⟨B5, 0, Option.none⟩ : Addr))) (.agg cs4)) w6 fun _ w7 =>
    Runs Try.prog (Builtin.append_ #[35, 35] 35 #[.slice At3 nt3 ct3, .slice (some (slB (⟨B5, 0, Option.none⟩ : Addr) 0 512 1)) (512 - 0) (512 - 0)]) w7 fun v9 w8 => ∃ (A10 : Option Addr) (n10 : Nat) (c10 : Nat), v9 = (.slice A10 n10 c10) ∧ (
    l0 k at0 A10 n10 c10 xt10 (IntKind.i64.wrap (xt11 + (1 : Int))) w8 K0))) (
    K0 At3 nt3 ct3 w)
def wp (aa0 : Addr) (w : World) (Q : Ending → World → Prop) : Prop :=
  ldS w aa0 fun A1 n1 c1 =>
  ∃ k13 : Nat, l0 k13 aa0 none 0 0 (n1 : Int) (0 : Int) w (fun (A11 : Option Addr) (n11 : Nat) (c11 : Nat) (w12 : World) => ∀ _ : Fr,
  Q (.returned (.slice A11 n11 c11)) w12)
def D : Nat → Option DH := dtab []
def l0LO : LO := ⟨[], [], [(0, [3])], []⟩
def l0Tk (k : Nat) : Spec := fun Q σ w =>
  gAd (σ 0) fun at0 =>
  gSlice (σ 3) fun At3 nt3 ct3 =>
  gInt .i64 (σ 10) fun xt10 =>
  gInt .i64 (σ 11) fun xt11 =>
  l0 k at0 At3 nt3 ct3 xt10 xt11 w (fun (Aq3 : Option Addr) (nq3 : Nat) (cq3 : Nat) (w : World) => ∀ d : Fr, Q (.exit 0) (ov d [(3, .slice Aq3 nq3 cq3)]) w)
def l0T : Spec := fun Q σ w => ∃ k, l0Tk k Q σ w
def l0tb : List (List Nat × Spec) := []
noncomputable def l0b : Code := (subC [0, 0, 1, 0, 1, 1] body).getD .skip
theorem l0_eq (k : Nat) (at0 : Addr) (At3 : Option Addr) (nt3 : Nat) (ct3 : Nat) (xt10 : Int) (xt11 : Int) (Q : PQ) (σ : Fr) (w : World) :
    l0 (k + 1) at0 At3 nt3 ct3 xt10 xt11 w (fun (Aq3 : Option Addr) (nq3 : Nat) (cq3 : Nat) (w : World) => ∀ d : Fr, Q (.exit 0) (ov d [(3, .slice Aq3 nq3 cq3)]) w) = codeW Try.prog hT 22 D (tab l0tb) [0, 0, 1, 0, 1, 1] l0b (thenQ (l0Tk k Q) (widen l0LO Q)) (ov σ [(0, .pointer (some at0)), (3, .slice At3 nt3 ct3), (10, .int .i64 xt10), (11, .int .i64 xt11)]) w := by kernel_rfl
theorem l0_snd : ∀ c, subC [0, 1, 0, 1, 1] body = some c → Snd Try.prog 22 c l0T := by
  refine loop_of (hT := hT) (D := D) (l := l0tb) (b := l0b) (lo := l0LO) (by kernel_rfl) (by
    intro x hx
    simp only [l0tb, List.not_mem_nil] at hx
    ) (by kernel_rfl) (by kernel_rfl) ?_ ?_
  · intro Q σ w h
    unfold l0Tk at h
    obtain ⟨at0, h0, hn⟩ := gAd_elim h
    clear h
    have h := hn
    clear hn
    obtain ⟨At3, nt3, ct3, h3, hn⟩ := gSlice_elim h
    clear h
    have h := hn
    clear hn
    obtain ⟨xt10, h10, hn⟩ := gInt_elim h
    clear h
    have h := hn
    clear hn
    obtain ⟨xt11, h11, hn⟩ := gInt_elim h
    clear h
    have h := hn
    clear hn
    exact h
  · intro k Q σ w h
    unfold l0Tk at h
    obtain ⟨at0, h0, hn⟩ := gAd_elim h
    clear h
    have h := hn
    clear hn
    obtain ⟨At3, nt3, ct3, h3, hn⟩ := gSlice_elim h
    clear h
    have h := hn
    clear hn
    obtain ⟨xt10, h10, hn⟩ := gInt_elim h
    clear h
    have h := hn
    clear hn
    obtain ⟨xt11, h11, hn⟩ := gInt_elim h
    clear h
    have h := hn
    clear hn
    rw [l0_eq (σ := σ)] at h
    have e : (ov σ [(0, .pointer (some at0)), (3, .slice At3 nt3 ct3), (10, .int .i64 xt10), (11, .int .i64 xt11)]) = σ := ov_self (by simp [h0, h3, h10, h11])
    rw [e] at h
    exact h
def tb : List (List Nat × Spec) := [([0, 1, 0, 1, 1], l0T)]
theorem wp_eq (aa0 : Addr) (w : World) (Q : Ending → World → Prop) :
    wp aa0 w Q = codeW Try.prog hT 22 D (tab tb) [] body (topQ Try.prog hT 22 [.tmp 2] Q) (argsF [.pointer (some aa0)]) w := by kernel_rfl
theorem ok (aa0 : Addr) (w : World) (Q : Ending → World → Prop) (h : wp aa0 w Q) : Calls Try.prog 26 #[.pointer (some aa0)] w Q := by
  rw [wp_eq] at h
  exact calls_of_codeW (c := body) (rs := [.tmp 2]) Try.func26 (by kernel_rfl) (by kernel_rfl) (by kernel_rfl) (by kernel_rfl) (by kernel_rfl) (tab_snd (by
    intro x hx
    simp only [tb, List.mem_cons, List.not_mem_nil, or_false] at hx
    subst hx
    exact l0_snd)) (by kernel_rfl) h
end f_disk_Disk_All
namespace f_disk_Disk_Safe
/-! (*skein/disk.Disk).Safe: function 27 -/
noncomputable def body : Code := (Try.f27.body).getD .skip
def l0 : Nat → Option Addr → Nat → Nat → Option Addr → Nat → Nat → Int → Int → World → ((Option Addr) → Nat → Nat → World → Prop) → Prop
  | 0, _, _, _, _, _, _, _, _, _, _ => False
  | k + 1, At3, nt3, ct3, At9, nt9, ct9, xt10, xt11, w, K0 =>
    sel (decide (xt11 < xt10)) (
    optB At9 fun a2 =>
    req (decide (0 ≤ xt11 ∧ xt11 < (nt9 : Int))) <|
    Runs Try.prog (Instr.loadAt 76 (.pointer (some (a2.add (xt11.toNat * 512))))) w fun v4 w3 => ∃ (cs5 : Array Value), v4 = (.agg cs5) ∧ (
    alW w3 (.cells (zeroCs Try.prog 76) 76) fun B6 w7 =>
    Runs Try.prog (Instr.storeAt 76 (.pointer (some (⟨B6, 0, Option.none⟩ : Addr))) (.agg cs5)) w7 fun _ w8 =>
    Runs Try.prog (Builtin.append_ #[35, 35] 35 #[.slice At3 nt3 ct3, .slice (some (slB (⟨B6, 0, Option.none⟩ : Addr) 0 512 1)) (512 - 0) (512 - 0)]) w8 fun v10 w9 => ∃ (A11 : Option Addr) (n11 : Nat) (c11 : Nat), v10 = (.slice A11 n11 c11) ∧ (
    l0 k A11 n11 c11 At9 nt9 ct9 xt10 (IntKind.i64.wrap (xt11 + (1 : Int))) w9 K0))) (
    K0 At3 nt3 ct3 w)
def wp (aa0 : Addr) (w : World) (Q : Ending → World → Prop) : Prop :=
  ldS w aa0 fun A1 n1 c1 =>
  ∃ k14 : Nat, l0 k14 none 0 0 A1 n1 c1 (n1 : Int) (0 : Int) w (fun (A12 : Option Addr) (n12 : Nat) (c12 : Nat) (w13 : World) => ∀ _ : Fr,
  Q (.returned (.slice A12 n12 c12)) w13)
def D : Nat → Option DH := dtab []
def l0LO : LO := ⟨[], [], [(0, [3])], []⟩
def l0Tk (k : Nat) : Spec := fun Q σ w =>
  gSlice (σ 3) fun At3 nt3 ct3 =>
  gSlice (σ 9) fun At9 nt9 ct9 =>
  gInt .i64 (σ 10) fun xt10 =>
  gInt .i64 (σ 11) fun xt11 =>
  l0 k At3 nt3 ct3 At9 nt9 ct9 xt10 xt11 w (fun (Aq3 : Option Addr) (nq3 : Nat) (cq3 : Nat) (w : World) => ∀ d : Fr, Q (.exit 0) (ov d [(3, .slice Aq3 nq3 cq3)]) w)
def l0T : Spec := fun Q σ w => ∃ k, l0Tk k Q σ w
def l0tb : List (List Nat × Spec) := []
noncomputable def l0b : Code := (subC [0, 0, 1, 0, 1, 1] body).getD .skip
theorem l0_eq (k : Nat) (At3 : Option Addr) (nt3 : Nat) (ct3 : Nat) (At9 : Option Addr) (nt9 : Nat) (ct9 : Nat) (xt10 : Int) (xt11 : Int) (Q : PQ) (σ : Fr) (w : World) :
    l0 (k + 1) At3 nt3 ct3 At9 nt9 ct9 xt10 xt11 w (fun (Aq3 : Option Addr) (nq3 : Nat) (cq3 : Nat) (w : World) => ∀ d : Fr, Q (.exit 0) (ov d [(3, .slice Aq3 nq3 cq3)]) w) = codeW Try.prog hT 20 D (tab l0tb) [0, 0, 1, 0, 1, 1] l0b (thenQ (l0Tk k Q) (widen l0LO Q)) (ov σ [(3, .slice At3 nt3 ct3), (9, .slice At9 nt9 ct9), (10, .int .i64 xt10), (11, .int .i64 xt11)]) w := by kernel_rfl
theorem l0_snd : ∀ c, subC [0, 1, 0, 1, 1] body = some c → Snd Try.prog 20 c l0T := by
  refine loop_of (hT := hT) (D := D) (l := l0tb) (b := l0b) (lo := l0LO) (by kernel_rfl) (by
    intro x hx
    simp only [l0tb, List.not_mem_nil] at hx
    ) (by kernel_rfl) (by kernel_rfl) ?_ ?_
  · intro Q σ w h
    unfold l0Tk at h
    obtain ⟨At3, nt3, ct3, h3, hn⟩ := gSlice_elim h
    clear h
    have h := hn
    clear hn
    obtain ⟨At9, nt9, ct9, h9, hn⟩ := gSlice_elim h
    clear h
    have h := hn
    clear hn
    obtain ⟨xt10, h10, hn⟩ := gInt_elim h
    clear h
    have h := hn
    clear hn
    obtain ⟨xt11, h11, hn⟩ := gInt_elim h
    clear h
    have h := hn
    clear hn
    exact h
  · intro k Q σ w h
    unfold l0Tk at h
    obtain ⟨At3, nt3, ct3, h3, hn⟩ := gSlice_elim h
    clear h
    have h := hn
    clear hn
    obtain ⟨At9, nt9, ct9, h9, hn⟩ := gSlice_elim h
    clear h
    have h := hn
    clear hn
    obtain ⟨xt10, h10, hn⟩ := gInt_elim h
    clear h
    have h := hn
    clear hn
    obtain ⟨xt11, h11, hn⟩ := gInt_elim h
    clear h
    have h := hn
    clear hn
    rw [l0_eq (σ := σ)] at h
    have e : (ov σ [(3, .slice At3 nt3 ct3), (9, .slice At9 nt9 ct9), (10, .int .i64 xt10), (11, .int .i64 xt11)]) = σ := ov_self (by simp [h3, h9, h10, h11])
    rw [e] at h
    exact h
def tb : List (List Nat × Spec) := [([0, 1, 0, 1, 1], l0T)]
theorem wp_eq (aa0 : Addr) (w : World) (Q : Ending → World → Prop) :
    wp aa0 w Q = codeW Try.prog hT 20 D (tab tb) [] body (topQ Try.prog hT 20 [.tmp 2] Q) (argsF [.pointer (some aa0)]) w := by kernel_rfl
theorem ok (aa0 : Addr) (w : World) (Q : Ending → World → Prop) (h : wp aa0 w Q) : Calls Try.prog 27 #[.pointer (some aa0)] w Q := by
  rw [wp_eq] at h
  exact calls_of_codeW (c := body) (rs := [.tmp 2]) Try.func27 (by kernel_rfl) (by kernel_rfl) (by kernel_rfl) (by kernel_rfl) (by kernel_rfl) (tab_snd (by
    intro x hx
    simp only [tb, List.mem_cons, List.not_mem_nil, or_false] at hx
    subst hx
    exact l0_snd)) (by kernel_rfl) h
end f_disk_Disk_Safe
namespace f_disk_Disk_Write_1
/-! (*skein/disk.Disk).Write$1: function 40 -/
noncomputable def body : Code := (Try.f40.body).getD .skip
def wp (ac0 : Addr) (ac1 : Addr) (ac2 : Addr) (w : World) (Q : Ending → World → Prop) : Prop :=
  alW w (.cells (zeroCs Try.prog 76) 76) fun B1 w2 =>
  drW w2 fun w3 =>
  ldS w3 ac0 fun A5 n5 c5 =>
  Runs Try.prog (Builtin.copy_ #[35, 35] 3 #[.slice (some (slB (⟨B1, 0, Option.none⟩ : Addr) 0 512 1)) (512 - 0) (512 - 0), .slice A5 n5 c5]) w3 fun v7 w6 => ∃ (x8 : Int), v7 = (.int .i64 x8) ∧ (
  drW w6 fun w9 =>
  ∃ S10 : World → Prop, S10 w9 ∧ (
  hdP S10 ac1 fun p11 =>
  optB p11 fun a12 =>
  hdM S10 (a12.add 1) fun m13 =>
  hdI S10 ac2 .i64 fun x14 =>
  Runs Try.prog (Instr.loadAt 76 (.pointer (some (⟨B1, 0, Option.none⟩ : Addr)))) w9 fun v16 w15 => ∃ (cs17 : Array Value), v16 = (.agg cs17) ∧ (
  S10 w15 ∧ (
  Runs Try.prog (Instr.mapUpdate 66 (.map m13) (.int .i64 x14) (.agg cs17)) w15 fun _ w18 =>
  Q (.returned (.tuple #[])) w18))))
def D : Nat → Option DH := dtab [(1, .simple [.fst 0, .fst 1] [.eff 2]), (2, .held [.fst 0, .fst 1, .fst 2, .fst 3, .fst 4, .eff 5] [.eff 6])]
def tb : List (List Nat × Spec) := []
theorem wp_eq (ac0 : Addr) (ac1 : Addr) (ac2 : Addr) (w : World) (Q : Ending → World → Prop) :
    wp ac0 ac1 ac2 w Q = codeW Try.prog hT 13 D (tab tb) [] body (topQ Try.prog hT 13 [] Q) (argsF [.pointer (some ac0), .pointer (some ac1), .pointer (some ac2)]) w := by kernel_rfl
theorem ok (ac0 : Addr) (ac1 : Addr) (ac2 : Addr) (w : World) (Q : Ending → World → Prop) (h : wp ac0 ac1 ac2 w Q) : Calls Try.prog 40 #[.pointer (some ac0), .pointer (some ac1), .pointer (some ac2)] w Q := by
  rw [wp_eq] at h
  exact calls_of_codeW (c := body) (rs := []) Try.func40 (by kernel_rfl) (by kernel_rfl) (by kernel_rfl) (by kernel_rfl) (by kernel_rfl) (tab_snd (by
    intro x hx
    simp only [tb, List.not_mem_nil] at hx
    )) (by kernel_rfl) h
end f_disk_Disk_Write_1
namespace f_disk_Disk_has
/-! (*skein/disk.Disk).has: function 41 -/
noncomputable def body : Code := (Try.f41.body).getD .skip
def wp (aa0 : Addr) (xa1 : Int) (w : World) (Q : Ending → World → Prop) : Prop :=
  alW w (.cells (zeroCs Try.prog 76) 76) fun B1 w2 =>
  ldM w2 (aa0.add 1) fun m3 =>
  Runs Try.prog (Instr.lookup 66 (.map m3) (.int .i64 xa1) true) w2 fun v5 w4 => ∃ (cs6_0 : Array Value) (b6_1 : Bool), v5 = (.tuple #[.agg cs6_0, .bool b6_1]) ∧ (
  alW w4 (.cells (zeroCs Try.prog 76) 76) fun B7 w8 =>
  Runs Try.prog (Instr.storeAt 76 (.pointer (some (⟨B7, 0, Option.none⟩ : Addr))) (.agg cs6_0)) w8 fun _ w9 =>
  sel b6_1 (
  Runs Try.prog (Instr.loadAt 76 (.pointer (some (⟨B7, 0, Option.none⟩ : Addr)))) w9 fun v11 w10 => ∃ (cs12 : Array Value), v11 = (.agg cs12) ∧ (
  Runs Try.prog (Instr.storeAt 76 (.pointer (some (⟨B1, 0, Option.none⟩ : Addr))) (.agg cs12)) w10 fun _ w13 =>
  ldBig Try.prog w13 76 (⟨B1, 0, Option.none⟩ : Addr) fun cs14 =>
  Q (.returned (.agg cs14)) w13)) (
  ldS w9 aa0 fun A15 n15 c15 =>
  optB A15 fun a16 =>
  req (decide (0 ≤ xa1 ∧ xa1 < (n15 : Int))) <|
  Runs Try.prog (Instr.loadAt 76 (.pointer (some (a16.add (xa1.toNat * 512))))) w9 fun v18 w17 => ∃ (cs19 : Array Value), v18 = (.agg cs19) ∧ (
  Runs Try.prog (Instr.storeAt 76 (.pointer (some (⟨B1, 0, Option.none⟩ : Addr))) (.agg cs19)) w17 fun _ w20 =>
  ldBig Try.prog w20 76 (⟨B1, 0, Option.none⟩ : Addr) fun cs21 =>
  Q (.returned (.agg cs21)) w20)))
def D : Nat → Option DH := dtab []
def tb : List (List Nat × Spec) := []
theorem wp_eq (aa0 : Addr) (xa1 : Int) (w : World) (Q : Ending → World → Prop) :
    wp aa0 xa1 w Q = codeW Try.prog hT 25 D (tab tb) [] body (topQ Try.prog hT 25 [.cell 4 76] Q) (argsF [.pointer (some aa0), .int .i64 xa1]) w := by kernel_rfl
theorem ok (aa0 : Addr) (xa1 : Int) (w : World) (Q : Ending → World → Prop) (h : wp aa0 xa1 w Q) : Calls Try.prog 41 #[.pointer (some aa0), .int .i64 xa1] w Q := by
  rw [wp_eq] at h
  exact calls_of_codeW (c := body) (rs := [.cell 4 76]) Try.func41 (by kernel_rfl) (by kernel_rfl) (by kernel_rfl) (by kernel_rfl) (by kernel_rfl) (tab_snd (by
    intro x hx
    simp only [tb, List.not_mem_nil] at hx
    )) (by kernel_rfl) h
end f_disk_Disk_has
namespace f_disk_Disk_Sync_1
/-! (*skein/disk.Disk).Sync$1: function 42 -/
noncomputable def body : Code := (Try.f42.body).getD .skip
def l0 : Nat → Addr → Option Addr → World → (World → Prop) → Prop
  | 0, _, _, _, _ => False
  | k + 1, at0, pt6, w, K0 =>
    Runs Try.prog (Instr.next (.pointer pt6) false 0) w fun v8 w7 => ∃ (b9 : Bool) (r9 : List Value), v8 = (.tuple ⟨.bool b9 :: r9⟩) ∧ (
    sel b9 (
    Runs Try.prog (Instr.entry (.pointer pt6)) w7 fun v11 w10 => ∃ (x12_0 : Int) (cs12_1 : Array Value), v11 = (.tuple #[.int .i64 x12_0, .agg cs12_1]) ∧ (
    ldP w10 at0 fun p13 =>
    Calls Try.prog 43 #[.pointer p13, .int .i64 x12_0] w10 fun e14 w15 => e14 = .returned (.tuple #[]) ∧ (
    l0 k at0 pt6 w15 K0))) (
    K0  w7))
def wp (ac0 : Addr) (w : World) (Q : Ending → World → Prop) : Prop :=
  ldP w ac0 fun p1 =>
  optB p1 fun a2 =>
  ldM w (a2.add 1) fun m3 =>
  Runs Try.prog (Instr.range 66 (.map m3)) w fun v5 w4 => ∃ (p6 : Option Addr), v5 = (.pointer p6) ∧ (
  ∃ k22 : Nat, l0 k22 ac0 p6 w4 (fun (w16 : World) => ∀ _ : Fr,
  ldP w16 ac0 fun p17 =>
  optB p17 fun a18 =>
  ldM w16 (a18.add 1) fun m19 =>
  Runs Try.prog (Builtin.clear_ #[66] 0 #[.map m19]) w16 fun v21 w20 => v21 = (.tuple #[]) ∧ (
  Q (.returned (.tuple #[])) w20)))
def D : Nat → Option DH := dtab []
def hTe : Hint := fun t => bif Nat.beq t 1000009 then .tup [(.sc (.int .i64)), (.sc .arr)] else hT t
def l0LO : LO := ⟨[], [], [(0, [0])], []⟩
def l0Tk (k : Nat) : Spec := fun Q σ w =>
  gAd (σ 0) fun at0 =>
  gPtr (σ 6) fun pt6 =>
  l0 k at0 pt6 w (fun (w : World) => ∀ d : Fr, Q (.exit 0) (ov d [(0, .pointer (some at0))]) w)
def l0T : Spec := fun Q σ w => ∃ k, l0Tk k Q σ w
def l0tb : List (List Nat × Spec) := []
noncomputable def l0b : Code := (subC [0, 0, 1, 0] body).getD .skip
theorem l0_eq (k : Nat) (at0 : Addr) (pt6 : Option Addr) (Q : PQ) (σ : Fr) (w : World) :
    l0 (k + 1) at0 pt6 w (fun (w : World) => ∀ d : Fr, Q (.exit 0) (ov d [(0, .pointer (some at0))]) w) = codeW Try.prog hTe 18 D (tab l0tb) [0, 0, 1, 0] l0b (thenQ (l0Tk k Q) (widen l0LO Q)) (ov σ [(0, .pointer (some at0)), (6, .pointer pt6)]) w := by kernel_rfl
theorem l0_snd : ∀ c, subC [0, 1, 0] body = some c → Snd Try.prog 18 c l0T := by
  refine loop_of (hT := hTe) (D := D) (l := l0tb) (b := l0b) (lo := l0LO) (by kernel_rfl) (by
    intro x hx
    simp only [l0tb, List.not_mem_nil] at hx
    ) (by kernel_rfl) (by kernel_rfl) ?_ ?_
  · intro Q σ w h
    unfold l0Tk at h
    obtain ⟨at0, h0, hn⟩ := gAd_elim h
    clear h
    have h := hn
    clear hn
    obtain ⟨pt6, h6, hn⟩ := gPtr_elim h
    clear h
    have h := hn
    clear hn
    exact h
  · intro k Q σ w h
    unfold l0Tk at h
    obtain ⟨at0, h0, hn⟩ := gAd_elim h
    clear h
    have h := hn
    clear hn
    obtain ⟨pt6, h6, hn⟩ := gPtr_elim h
    clear h
    have h := hn
    clear hn
    rw [l0_eq (σ := σ)] at h
    have e : (ov σ [(0, .pointer (some at0)), (6, .pointer pt6)]) = σ := ov_self (by simp [h0, h6])
    rw [e] at h
    exact h
def tb : List (List Nat × Spec) := [([0, 1, 0], l0T)]
theorem wp_eq (ac0 : Addr) (w : World) (Q : Ending → World → Prop) :
    wp ac0 w Q = codeW Try.prog hTe 18 D (tab tb) [] body (topQ Try.prog hTe 18 [] Q) (argsF [.pointer (some ac0)]) w := by kernel_rfl
theorem ok (ac0 : Addr) (w : World) (Q : Ending → World → Prop) (h : wp ac0 w Q) : Calls Try.prog 42 #[.pointer (some ac0)] w Q := by
  rw [wp_eq] at h
  exact calls_of_codeW (c := body) (rs := []) Try.func42 (by kernel_rfl) (by kernel_rfl) (by kernel_rfl) (by kernel_rfl) (by kernel_rfl) (tab_snd (by
    intro x hx
    simp only [tb, List.mem_cons, List.not_mem_nil, or_false] at hx
    subst hx
    exact l0_snd)) (by kernel_rfl) h
end f_disk_Disk_Sync_1
namespace f_disk_Disk_settle
/-! (*skein/disk.Disk).settle: function 43 -/
noncomputable def body : Code := (Try.f43.body).getD .skip
def wp (aa0 : Addr) (xa1 : Int) (w : World) (Q : Ending → World → Prop) : Prop :=
  drW w fun w1 =>
  ∃ S2 : World → Prop, S2 w1 ∧ (
  hdS S2 aa0 fun A3 n3 c3 =>
  Calls Try.prog 41 #[.pointer (some aa0), .int .i64 xa1] w1 fun e4 w5 => ∃ (cs6 : Array Value), e4 = .returned (.agg cs6) ∧ (
  S2 w5 ∧ (
  optB A3 fun a7 =>
  req (decide (0 ≤ xa1 ∧ xa1 < (n3 : Int))) <|
  Runs Try.prog (Instr.storeAt 76 (.pointer (some (a7.add (xa1.toNat * 512)))) (.agg cs6)) w5 fun _ w8 =>
  Q (.returned (.tuple #[])) w8)))
def D : Nat → Option DH := dtab [(0, .held [.fst 0, .fst 1, .fst 2, .fst 3, .fst 4, .fst 5, .fst 6, .eff 7] [.fst 8, .eff 9])]
def tb : List (List Nat × Spec) := []
theorem wp_eq (aa0 : Addr) (xa1 : Int) (w : World) (Q : Ending → World → Prop) :
    wp aa0 xa1 w Q = codeW Try.prog hT 13 D (tab tb) [] body (topQ Try.prog hT 13 [] Q) (argsF [.pointer (some aa0), .int .i64 xa1]) w := by kernel_rfl
theorem ok (aa0 : Addr) (xa1 : Int) (w : World) (Q : Ending → World → Prop) (h : wp aa0 xa1 w Q) : Calls Try.prog 43 #[.pointer (some aa0), .int .i64 xa1] w Q := by
  rw [wp_eq] at h
  exact calls_of_codeW (c := body) (rs := []) Try.func43 (by kernel_rfl) (by kernel_rfl) (by kernel_rfl) (by kernel_rfl) (by kernel_rfl) (tab_snd (by
    intro x hx
    simp only [tb, List.not_mem_nil] at hx
    )) (by kernel_rfl) h
end f_disk_Disk_settle
namespace f_api_Fate_Clone
/-! slices.Clone[[]skein/api.Fate,skein/api.Fate]: function 44 -/
noncomputable def body : Code := (Try.f44.body).getD .skip
def wp (Aa0 : Option Addr) (na0 : Nat) (ca0 : Nat) (w : World) (Q : Ending → World → Prop) : Prop :=
  sel Aa0.isNone (
  Q (.returned (.slice none 0 0)) w) (
  alW w (.cells #[] 63) fun B1 w2 =>
  Runs Try.prog (Builtin.append_ #[26, 26] 26 #[.slice (some (⟨B1, 0, Option.none⟩ : Addr)) 0 0, .slice Aa0 na0 ca0]) w2 fun v4 w3 => ∃ (A5 : Option Addr) (n5 : Nat) (c5 : Nat), v4 = (.slice A5 n5 c5) ∧ (
  Q (.returned (.slice A5 n5 c5)) w3))
def D : Nat → Option DH := dtab []
def tb : List (List Nat × Spec) := []
theorem wp_eq (Aa0 : Option Addr) (na0 : Nat) (ca0 : Nat) (w : World) (Q : Ending → World → Prop) :
    wp Aa0 na0 ca0 w Q = codeW Try.prog hT 8 D (tab tb) [] body (topQ Try.prog hT 8 [.tmp 2] Q) (argsF [.slice Aa0 na0 ca0]) w := by kernel_rfl
theorem ok (Aa0 : Option Addr) (na0 : Nat) (ca0 : Nat) (w : World) (Q : Ending → World → Prop) (h : wp Aa0 na0 ca0 w Q) : Calls Try.prog 44 #[.slice Aa0 na0 ca0] w Q := by
  rw [wp_eq] at h
  exact calls_of_codeW (c := body) (rs := [.tmp 2]) Try.func44 (by kernel_rfl) (by kernel_rfl) (by kernel_rfl) (by kernel_rfl) (by kernel_rfl) (tab_snd (by
    intro x hx
    simp only [tb, List.not_mem_nil] at hx
    )) (by kernel_rfl) h
end f_api_Fate_Clone
namespace f_api_Fate_Back
/-! slices.Backward[[]skein/api.Fate,skein/api.Fate]: function 56 -/
noncomputable def body : Code := (Try.f56.body).getD .skip
def wp (Aa0 : Option Addr) (na0 : Nat) (ca0 : Nat) (w : World) (Q : Ending → World → Prop) : Prop :=
  alW w (.cells #[.slice Aa0 na0 ca0] 26) fun B1 w2 =>
  Q (.returned (.func (.func 65) #[] #[.pointer (some (⟨B1, 0, Option.none⟩ : Addr))])) w2
def D : Nat → Option DH := dtab []
def tb : List (List Nat × Spec) := []
theorem wp_eq (Aa0 : Option Addr) (na0 : Nat) (ca0 : Nat) (w : World) (Q : Ending → World → Prop) :
    wp Aa0 na0 ca0 w Q = codeW Try.prog hT 4 D (tab tb) [] body (topQ Try.prog hT 4 [.tmp 2] Q) (argsF [.slice Aa0 na0 ca0]) w := by kernel_rfl
theorem ok (Aa0 : Option Addr) (na0 : Nat) (ca0 : Nat) (w : World) (Q : Ending → World → Prop) (h : wp Aa0 na0 ca0 w Q) : Calls Try.prog 56 #[.slice Aa0 na0 ca0] w Q := by
  rw [wp_eq] at h
  exact calls_of_codeW (c := body) (rs := [.tmp 2]) Try.func56 (by kernel_rfl) (by kernel_rfl) (by kernel_rfl) (by kernel_rfl) (by kernel_rfl) (tab_snd (by
    intro x hx
    simp only [tb, List.not_mem_nil] at hx
    )) (by kernel_rfl) h
end f_api_Fate_Back
end Go.Proofs.Ythekjlglnmhlaaa.Rd
