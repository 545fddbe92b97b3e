/- The printed readings of some functions: each function's code reckoned by the kernel to its predicate transformer. -/
import Derived.Test.YtpokaafedpnbdaaDoorHint
namespace Go.Proofs.YtpokaafedpnbdaaDoor.Rd
open Go.Dn
set_option maxRecDepth 100000
set_option linter.unusedVariables false
namespace f_wal_Log_Append
/-! (*skein/wal.Log).Append: function 10 -/
noncomputable def body : Code := (Tryd.f10.body).getD .skip
def wp (aa0 : Addr) (xa1 : Int) (Aa2 : Option Addr) (na2 : Nat) (ca2 : Nat) (w : World) (Q : Ending → World → Prop) : Prop :=
  alW w (.cells #[.int .u8 (IntKind.u8.wrap xa1)] 5) fun B1 w2 =>
  Calls Tryd.prog 32 #[.slice Aa2 na2 ca2] w2 fun e3 w4 => ∃ (A5 : Option Addr) (n5 : Nat) (c5 : Nat), e3 = .returned (.slice A5 n5 c5) ∧ (
  Runs Tryd.prog (Builtin.append_ #[29, 29] 29 #[.slice (some (⟨B1, 0, Option.none⟩ : Addr)) 1 1, .slice A5 n5 c5]) w4 fun v7 w6 => ∃ (A8 : Option Addr) (n8 : Nat) (c8 : Nat), v7 = (.slice A8 n8 c8) ∧ (
  ldB w6 (aa0.add 9) fun b9 =>
  sel b9 (
  Q (.returned (.tuple #[.int .i64 (0 : Int), .int .i64 (91 : Int)])) w6) (
  ldB w6 (aa0.add 8) fun b10 =>
  sel b10 (
  Q (.returned (.tuple #[.int .i64 (0 : Int), .int .i64 (111 : Int)])) w6) (
  sel (decide (xa1 < (1 : Int))) (
  Q (.returned (.tuple #[.int .i64 (0 : Int), .int .i64 (1 : Int)])) w6) (
  sel (decide (xa1 > (255 : Int))) (
  Q (.returned (.tuple #[.int .i64 (0 : Int), .int .i64 (1 : Int)])) w6) (
  sel (decide ((na2 : Int) > (1200 : Int))) (
  Q (.returned (.tuple #[.int .i64 (0 : Int), .int .i64 (4 : Int)])) w6) (
  Calls Tryd.prog 21 #[.pointer (some aa0)] w6 fun e11 w12 => ∃ (x13 : Int), e11 = .returned (.int .i64 x13) ∧ (
  sel (decide ((n8 : Int) > x13)) (
  Q (.returned (.tuple #[.int .i64 (0 : Int), .int .i64 (90 : Int)])) w12) (
  Calls Tryd.prog 23 #[.pointer (some aa0)] w12 fun e14 w15 => ∃ (x16 : Int), e14 = .returned (.int .i64 x16) ∧ (
  ldS w15 (aa0.add 5) fun A17 n17 c17 =>
  Runs Tryd.prog (Builtin.append_ #[29, 29] 29 #[.slice A17 n17 c17, .slice A8 n8 c8]) w15 fun v19 w18 => ∃ (A20 : Option Addr) (n20 : Nat) (c20 : Nat), v19 = (.slice A20 n20 c20) ∧ (
  stW w18 (aa0.add 5) (.slice A20 n20 c20) fun w21 =>
  drW w21 fun w22 =>
  ∃ S23 : World → Prop, S23 w22 ∧ (
  hdS S23 (aa0.add 7) fun A24 n24 c24 =>
  Calls Tryd.prog 33 #[.slice Aa2 na2 ca2] w22 fun e25 w26 => ∃ (A27 : Option Addr) (n27 : Nat) (c27 : Nat), e25 = .returned (.slice A27 n27 c27) ∧ (
  S23 w26 ∧ (
  alW w26 (.cells #[.int .i64 x16, .int .i64 xa1, .slice A27 n27 c27] 39) fun B28 w29 =>
  S23 w29 ∧ (
  Runs Tryd.prog (Builtin.append_ #[28, 28] 28 #[.slice A24 n24 c24, .slice (some (⟨B28, 0, Option.none⟩ : Addr)) 1 1]) w29 fun v31 w30 => ∃ (A32 : Option Addr) (n32 : Nat) (c32 : Nat), v31 = (.slice A32 n32 c32) ∧ (
  S23 w30 ∧ (
  stW w30 (aa0.add 7) (.slice A32 n32 c32) fun w33 =>
  Q (.returned (.tuple #[.int .i64 x16, .int .i64 (0 : Int)])) w33)))))))))))))))))
def D : Nat → Option DH := dtab [(14, .held [.fst 0, .fst 1, .fst 2, .fst 3, .fst 4, .fst 5, .fst 6, .fst 7, .eff 8, .fst 9, .eff 10, .eff 11] [.fst 12, .fst 13, .eff 14])]
def tb : List (List Nat × Spec) := []
theorem wp_eq (aa0 : Addr) (xa1 : Int) (Aa2 : Option Addr) (na2 : Nat) (ca2 : Nat) (w : World) (Q : Ending → World → Prop) :
    wp aa0 xa1 Aa2 na2 ca2 w Q = codeW Tryd.prog hT 69 D (tab tb) [] body (topQ Tryd.prog hT 69 [.tmp 6, .tmp 7] Q) (argsF [.pointer (some aa0), .int .i64 xa1, .slice Aa2 na2 ca2]) w := by kernel_rfl
theorem ok (aa0 : Addr) (xa1 : Int) (Aa2 : Option Addr) (na2 : Nat) (ca2 : Nat) (w : World) (Q : Ending → World → Prop) (h : wp aa0 xa1 Aa2 na2 ca2 w Q) : Calls Tryd.prog 10 #[.pointer (some aa0), .int .i64 xa1, .slice Aa2 na2 ca2] w Q := by
  rw [wp_eq] at h
  exact calls_of_codeW (c := body) (rs := [.tmp 6, .tmp 7]) Tryd.func10 (by kernel_rfl) (by kernel_rfl) (by kernel_rfl) (by kernel_rfl) (by kernel_rfl) (tab_snd (by
    intro x hx
    simp only [tb, List.not_mem_nil] at hx
    )) (by kernel_rfl) h
end f_wal_Log_Append
namespace f_wal_Log_Flush
/-! (*skein/wal.Log).Flush: function 12 -/
noncomputable def body : Code := (Tryd.f12.body).getD .skip
def l0 : Nat → Addr → Int → World → (World → Prop) → (Int → World → Prop) → Prop
  | 0, _, _, _, _, _ => False
  | k + 1, at0, xt3, w, K1, Kr =>
    ldS w (at0.add 5) fun A7 n7 c7 =>
    sel (decide ((IntKind.i64.wrap (xt3 * (498 : Int))) < (n7 : Int))) (
    drW w fun w8 =>
    ldS w8 (at0.add 5) fun A10 n10 c10 =>
    ldS w8 (at0.add 5) fun A11 n11 c11 =>
    req (decide (0 ≤ (if (n11 : Int) < (IntKind.i64.wrap ((IntKind.i64.wrap (xt3 + (1 : Int))) * (498 : Int))) then (n11 : Int) else (IntKind.i64.wrap ((IntKind.i64.wrap (xt3 + (1 : Int))) * (498 : Int)))) ∧ (if (n11 : Int) < (IntKind.i64.wrap ((IntKind.i64.wrap (xt3 + (1 : Int))) * (498 : Int))) then (n11 : Int) else (IntKind.i64.wrap ((IntKind.i64.wrap (xt3 + (1 : Int))) * (498 : Int)))) ≤ (c10 : Int))) <|
    req (decide (0 ≤ (IntKind.i64.wrap (xt3 * (498 : Int))) ∧ (IntKind.i64.wrap (xt3 * (498 : Int))) ≤ ((if (n11 : Int) < (IntKind.i64.wrap ((IntKind.i64.wrap (xt3 + (1 : Int))) * (498 : Int))) then (n11 : Int) else (IntKind.i64.wrap ((IntKind.i64.wrap (xt3 + (1 : Int))) * (498 : Int)))).toNat : Int))) <|
    drW w8 fun w12 =>
    ∃ S13 : World → Prop, S13 w12 ∧ (
    hdP S13 at0 fun p14 =>
    hdI S13 (at0.add 1) .i64 fun x15 =>
    hdI S13 (at0.add 3) .i64 fun x16 =>
    Calls Tryd.prog 34 #[.int .i64 x16, .slice (slA A10 ((IntKind.i64.wrap (xt3 * (498 : Int))).toNat) c10 1) ((if (n11 : Int) < (IntKind.i64.wrap ((IntKind.i64.wrap (xt3 + (1 : Int))) * (498 : Int))) then (n11 : Int) else (IntKind.i64.wrap ((IntKind.i64.wrap (xt3 + (1 : Int))) * (498 : Int)))).toNat - (IntKind.i64.wrap (xt3 * (498 : Int))).toNat) (c10 - (IntKind.i64.wrap (xt3 * (498 : Int))).toNat)] w12 fun e17 w18 => ∃ (A19 : Option Addr) (n19 : Nat) (c19 : Nat), e17 = .returned (.slice A19 n19 c19) ∧ (
    S13 w18 ∧ (
    Calls Tryd.prog 24 #[.pointer p14, .int .i64 (IntKind.i64.wrap (x15 + xt3)), .slice A19 n19 c19] w18 fun e20 w21 => ∃ (x22 : Int), e20 = .returned (.int .i64 x22) ∧ (
    Calls Tryd.prog 35 #[.pointer (some at0), .int .i64 x22] w21 fun e23 w24 => ∃ (b25 : Bool), e23 = .returned (.bool b25) ∧ (
    sel (!b25) (
    Kr x22 w24) (
    l0 k at0 (IntKind.i64.wrap (xt3 + (1 : Int))) w24 K1 Kr))))))) (
    K1  w)
def wp (aa0 : Addr) (w : World) (Q : Ending → World → Prop) : Prop :=
  ldB w (aa0.add 9) fun b1 =>
  sel b1 (
  Q (.returned (.int .i64 (91 : Int))) w) (
  drW w fun w2 =>
  ldI w2 (aa0.add 6) .i64 fun x4 =>
  ldS w2 (aa0.add 5) fun A5 n5 c5 =>
  sel (x4 == (n5 : Int)) (
  Q (.returned (.int .i64 (0 : Int))) w2) (
  ldI w2 (aa0.add 6) .i64 fun x6 =>
  ∃ k38 : Nat, l0 k38 aa0 (IntKind.i64.wrap (x6.tdiv (498 : Int))) w2 (fun (w26 : World) => ∀ _ : Fr,
  ldP w26 aa0 fun p27 =>
  Calls Tryd.prog 36 #[.pointer p27] w26 fun e28 w29 => ∃ (x30 : Int), e28 = .returned (.int .i64 x30) ∧ (
  Calls Tryd.prog 35 #[.pointer (some aa0), .int .i64 x30] w29 fun e31 w32 => ∃ (b33 : Bool), e31 = .returned (.bool b33) ∧ (
  sel (!b33) (
  Q (.returned (.int .i64 x30)) w32) (
  ldS w32 (aa0.add 5) fun A34 n34 c34 =>
  stW w32 (aa0.add 6) (.int .i64 (n34 : Int)) fun w35 =>
  Q (.returned (.int .i64 (0 : Int))) w35)))) (fun (x36 : Int) (w37 : World) => ∀ _ : Fr,
  Q (.returned (.int .i64 x36)) w37)))
def D : Nat → Option DH := dtab [(3, .simple [.fst 0, .fst 1, .fst 2, .fst 3, .fst 4, .fst 5, .fst 6, .fst 7, .fst 8] [.fst 9, .fst 10]), (8, .simple [.fst 0, .fst 1, .fst 2, .fst 3, .fst 4, .fst 5, .fst 6, .fst 7, .fst 8, .fst 9, .fst 10, .fst 11, .fst 12, .fst 13, .fst 14] [.fst 15, .fst 16]), (9, .held [.fst 0, .fst 1, .fst 2, .fst 3, .fst 4, .fst 5, .fst 6, .fst 7, .fst 8, .fst 9, .fst 10, .fst 11, .fst 12, .fst 13, .fst 14, .eff 15] [.eff 16, .fst 17])]
def l0LO : LO := ⟨[], [2], [(1, [0])], []⟩
def l0Tk (k : Nat) : Spec := fun Q σ w =>
  gAd (σ 0) fun at0 =>
  gInt .i64 (σ 3) fun xt3 =>
  l0 k at0 xt3 w (fun (w : World) => ∀ d : Fr, Q (.exit 1) (ov d [(0, .pointer (some at0))]) w) (fun (xq2 : Int) (w : World) => ∀ d : Fr, Q .ret (ov d [(2, .int .i64 xq2)]) w)
def l0T : Spec := fun Q σ w => ∃ k, l0Tk k Q σ w
def l0tb : List (List Nat × Spec) := []
noncomputable def l0b : Code := (subC [0, 0, 1, 0, 1, 1] body).getD .skip
theorem l0_eq (k : Nat) (at0 : Addr) (xt3 : Int) (Q : PQ) (σ : Fr) (w : World) :
    l0 (k + 1) at0 xt3 w (fun (w : World) => ∀ d : Fr, Q (.exit 1) (ov d [(0, .pointer (some at0))]) w) (fun (xq2 : Int) (w : World) => ∀ d : Fr, Q .ret (ov d [(2, .int .i64 xq2)]) w) = codeW Tryd.prog hT 94 D (tab l0tb) [0, 0, 1, 0, 1, 1] l0b (thenQ (l0Tk k Q) (widen l0LO Q)) (ov σ [(0, .pointer (some at0)), (3, .int .i64 xt3)]) w := by kernel_rfl
theorem l0_snd : ∀ c, subC [0, 1, 0, 1, 1] body = some c → Snd Tryd.prog 94 c l0T := by
  refine loop_of (hT := hT) (D := D) (l := l0tb) (b := l0b) (lo := l0LO) (by kernel_rfl) (by
    intro x hx
    simp only [l0tb, List.not_mem_nil] at hx
    ) (by kernel_rfl) (by kernel_rfl) ?_ ?_
  · intro Q σ w h
    unfold l0Tk at h
    obtain ⟨at0, h0, hn⟩ := gAd_elim h
    clear h
    have h := hn
    clear hn
    obtain ⟨xt3, h3, hn⟩ := gInt_elim h
    clear h
    have h := hn
    clear hn
    exact h
  · intro k Q σ w h
    unfold l0Tk at h
    obtain ⟨at0, h0, hn⟩ := gAd_elim h
    clear h
    have h := hn
    clear hn
    obtain ⟨xt3, h3, hn⟩ := gInt_elim h
    clear h
    have h := hn
    clear hn
    rw [l0_eq (σ := σ)] at h
    have e : (ov σ [(0, .pointer (some at0)), (3, .int .i64 xt3)]) = σ := ov_self (by simp [h0, h3])
    rw [e] at h
    exact h
def tb : List (List Nat × Spec) := [([0, 1, 0, 1, 1], l0T)]
theorem wp_eq (aa0 : Addr) (w : World) (Q : Ending → World → Prop) :
    wp aa0 w Q = codeW Tryd.prog hT 94 D (tab tb) [] body (topQ Tryd.prog hT 94 [.tmp 2] Q) (argsF [.pointer (some aa0)]) w := by kernel_rfl
theorem ok (aa0 : Addr) (w : World) (Q : Ending → World → Prop) (h : wp aa0 w Q) : Calls Tryd.prog 12 #[.pointer (some aa0)] w Q := by
  rw [wp_eq] at h
  exact calls_of_codeW (c := body) (rs := [.tmp 2]) Tryd.func12 (by kernel_rfl) (by kernel_rfl) (by kernel_rfl) (by kernel_rfl) (by kernel_rfl) (tab_snd (by
    intro x hx
    simp only [tb, List.mem_cons, List.not_mem_nil, or_false] at hx
    subst hx
    exact l0_snd)) (by kernel_rfl) h
end f_wal_Log_Flush
namespace f_wal_Log_Reset
/-! (*skein/wal.Log).Reset: function 13 -/
noncomputable def body : Code := (Tryd.f13.body).getD .skip
def wp (aa0 : Addr) (w : World) (Q : Ending → World → Prop) : Prop :=
  ldB w (aa0.add 9) fun b1 =>
  sel b1 (
  Q (.returned (.int .i64 (91 : Int))) w) (
  ldI w (aa0.add 4) .i64 fun x2 =>
  sel (decide (x2 ≥ (274877906944 : Int))) (
  Q (.returned (.int .i64 (90 : Int))) w) (
  drW w fun w3 =>
  ∃ S4 : World → Prop, S4 w3 ∧ (
  hdP S4 aa0 fun p5 =>
  hdI S4 (aa0.add 1) .i64 fun x6 =>
  hdI S4 (aa0.add 4) .i64 fun x7 =>
  Calls Tryd.prog 34 #[.int .i64 (IntKind.i64.wrap (x7 + (1 : Int))), .slice none 0 0] w3 fun e8 w9 => ∃ (A10 : Option Addr) (n10 : Nat) (c10 : Nat), e8 = .returned (.slice A10 n10 c10) ∧ (
  S4 w9 ∧ (
  Calls Tryd.prog 24 #[.pointer p5, .int .i64 x6, .slice A10 n10 c10] w9 fun e11 w12 => ∃ (x13 : Int), e11 = .returned (.int .i64 x13) ∧ (
  Calls Tryd.prog 35 #[.pointer (some aa0), .int .i64 x13] w12 fun e14 w15 => ∃ (b16 : Bool), e14 = .returned (.bool b16) ∧ (
  sel (!b16) (
  Q (.returned (.int .i64 x13)) w15) (
  ldP w15 aa0 fun p17 =>
  Calls Tryd.prog 36 #[.pointer p17] w15 fun e18 w19 => ∃ (x20 : Int), e18 = .returned (.int .i64 x20) ∧ (
  Calls Tryd.prog 35 #[.pointer (some aa0), .int .i64 x20] w19 fun e21 w22 => ∃ (b23 : Bool), e21 = .returned (.bool b23) ∧ (
  sel (!b23) (
  Q (.returned (.int .i64 x20)) w22) (
  ldI w22 (aa0.add 4) .i64 fun x24 =>
  stW w22 (aa0.add 4) (.int .i64 (IntKind.i64.wrap (x24 + (1 : Int)))) fun w25 =>
  ldI w25 (aa0.add 4) .i64 fun x26 =>
  stW w25 (aa0.add 3) (.int .i64 x26) fun w27 =>
  stW w27 (aa0.add 5) (.slice none 0 0) fun w28 =>
  stW w28 (aa0.add 6) (.int .i64 (0 : Int)) fun w29 =>
  stW w29 (aa0.add 7) (.slice none 0 0) fun w30 =>
  stW w30 (aa0.add 8) (.bool false) fun w31 =>
  Q (.returned (.int .i64 (0 : Int))) w31)))))))))))
def D : Nat → Option DH := dtab [(5, .held [.fst 0, .fst 1, .fst 2, .fst 3, .fst 4, .fst 5, .fst 6, .fst 7, .fst 8, .fst 9, .fst 10, .fst 11, .fst 12, .eff 13] [.eff 14, .fst 15])]
def tb : List (List Nat × Spec) := []
theorem wp_eq (aa0 : Addr) (w : World) (Q : Ending → World → Prop) :
    wp aa0 w Q = codeW Tryd.prog hT 72 D (tab tb) [] body (topQ Tryd.prog hT 72 [.tmp 2] Q) (argsF [.pointer (some aa0)]) w := by kernel_rfl
theorem ok (aa0 : Addr) (w : World) (Q : Ending → World → Prop) (h : wp aa0 w Q) : Calls Tryd.prog 13 #[.pointer (some aa0)] w Q := by
  rw [wp_eq] at h
  exact calls_of_codeW (c := body) (rs := [.tmp 2]) Tryd.func13 (by kernel_rfl) (by kernel_rfl) (by kernel_rfl) (by kernel_rfl) (by kernel_rfl) (tab_snd (by
    intro x hx
    simp only [tb, List.not_mem_nil] at hx
    )) (by kernel_rfl) h
end f_wal_Log_Reset
namespace f_wal_Open
/-! skein/wal.Open: function 18 -/
noncomputable def body : Code := (Tryd.f18.body).getD .skip
def l0 : Nat → Addr → Int → Int → Bool → World → (Int → World → Prop) → Prop
  | 0, _, _, _, _, _, _ => False
  | k + 1, at9, xt11, xt12, bt13, w, K0 =>
    sel bt13 (
    Calls Tryd.prog 41 #[.pointer (some at9), .int .i64 xt12] w fun e12 w13 => ∃ (x14_0 : Int) (b14_1 : Bool), e12 = .returned (.tuple #[.int .i64 x14_0, .bool b14_1]) ∧ (
    l0 k at9 xt12 x14_0 b14_1 w13 K0)) (
    K0 xt11 w)
def wp (pa0 : Option Addr) (xa1 : Int) (xa2 : Int) (w : World) (Q : Ending → World → Prop) : Prop :=
  Calls Tryd.prog 39 #[.pointer pa0, .int .i64 xa1, .int .i64 xa2] w fun e1 w2 => ∃ (b3 : Bool), e1 = .returned (.bool b3) ∧ (
  sel b3 (
  Q (.returned (.tuple #[.pointer none, .slice none 0 0, .int .i64 (1 : Int)])) w2) (
  alW w2 (.cells #[.pointer pa0, .int .i64 xa1, .int .i64 xa2, .int .i64 (0 : Int), .int .i64 (0 : Int), .slice none 0 0, .int .i64 (0 : Int), .slice none 0 0, .bool true, .bool false] 75) fun B4 w5 =>
  Calls Tryd.prog 40 #[.pointer (some (⟨B4, 0, Option.none⟩ : Addr))] w5 fun e6 w7 => ∃ (x8 : Int), e6 = .returned (.int .i64 x8) ∧ (
  sel (x8 != (0 : Int)) (
  Q (.returned (.tuple #[.pointer none, .slice none 0 0, .int .i64 x8])) w7) (
  Calls Tryd.prog 41 #[.pointer (some (⟨B4, 0, Option.none⟩ : Addr)), .int .i64 (0 : Int)] w7 fun e9 w10 => ∃ (x11_0 : Int) (b11_1 : Bool), e9 = .returned (.tuple #[.int .i64 x11_0, .bool b11_1]) ∧ (
  ∃ k24 : Nat, l0 k24 (⟨B4, 0, Option.none⟩ : Addr) (0 : Int) x11_0 b11_1 w10 (fun (x15 : Int) (w16 : World) => ∀ _ : Fr,
  ldS w16 ((⟨B4, 0, Option.none⟩ : Addr).add 5) fun A17 n17 c17 =>
  req (decide (0 ≤ x15 ∧ x15 ≤ (c17 : Int))) <|
  stW w16 ((⟨B4, 0, Option.none⟩ : Addr).add 5) (.slice (slA A17 0 c17 1) (x15.toNat - 0) (c17 - 0)) fun w18 =>
  stW w18 ((⟨B4, 0, Option.none⟩ : Addr).add 6) (.int .i64 x15) fun w19 =>
  ldS w19 ((⟨B4, 0, Option.none⟩ : Addr).add 7) fun A20 n20 c20 =>
  Calls Tryd.prog 42 #[.slice A20 n20 c20] w19 fun e21 w22 => ∃ (A23 : Option Addr) (n23 : Nat) (c23 : Nat), e21 = .returned (.slice A23 n23 c23) ∧ (
  Q (.returned (.tuple #[.pointer (some (⟨B4, 0, Option.none⟩ : Addr)), .slice A23 n23 c23, .int .i64 (0 : Int)])) w22)))))))
def D : Nat → Option DH := dtab []
def l0LO : LO := ⟨[], [], [(0, [9, 11])], []⟩
def l0Tk (k : Nat) : Spec := fun Q σ w =>
  gAd (σ 9) fun at9 =>
  gInt .i64 (σ 11) fun xt11 =>
  gInt .i64 (σ 12) fun xt12 =>
  gBool (σ 13) fun bt13 =>
  l0 k at9 xt11 xt12 bt13 w (fun (xq11 : Int) (w : World) => ∀ d : Fr, Q (.exit 0) (ov d [(9, .pointer (some at9)), (11, .int .i64 xq11)]) w)
def l0T : Spec := fun Q σ w => ∃ k, l0Tk k Q σ w
def l0tb : List (List Nat × Spec) := []
noncomputable def l0b : Code := (subC [0, 0, 1, 0, 1, 1, 1, 1, 1] body).getD .skip
theorem l0_eq (k : Nat) (at9 : Addr) (xt11 : Int) (xt12 : Int) (bt13 : Bool) (Q : PQ) (σ : Fr) (w : World) :
    l0 (k + 1) at9 xt11 xt12 bt13 w (fun (xq11 : Int) (w : World) => ∀ d : Fr, Q (.exit 0) (ov d [(9, .pointer (some at9)), (11, .int .i64 xq11)]) w) = codeW Tryd.prog hT 61 D (tab l0tb) [0, 0, 1, 0, 1, 1, 1, 1, 1] l0b (thenQ (l0Tk k Q) (widen l0LO Q)) (ov σ [(9, .pointer (some at9)), (11, .int .i64 xt11), (12, .int .i64 xt12), (13, .bool bt13)]) w := by cases bt13 <;> kernel_rfl
theorem l0_snd : ∀ c, subC [0, 1, 0, 1, 1, 1, 1, 1] body = some c → Snd Tryd.prog 61 c l0T := by
  refine loop_of (hT := hT) (D := D) (l := l0tb) (b := l0b) (lo := l0LO) (by kernel_rfl) (by
    intro x hx
    simp only [l0tb, List.not_mem_nil] at hx
    ) (by kernel_rfl) (by kernel_rfl) ?_ ?_
  · intro Q σ w h
    unfold l0Tk at h
    obtain ⟨at9, h9, hn⟩ := gAd_elim h
    clear h
    have h := hn
    clear hn
    obtain ⟨xt11, h11, hn⟩ := gInt_elim h
    clear h
    have h := hn
    clear hn
    obtain ⟨xt12, h12, hn⟩ := gInt_elim h
    clear h
    have h := hn
    clear hn
    obtain ⟨bt13, h13, hn⟩ := gBool_elim h
    clear h
    have h := hn
    clear hn
    exact h
  · intro k Q σ w h
    unfold l0Tk at h
    obtain ⟨at9, h9, hn⟩ := gAd_elim h
    clear h
    have h := hn
    clear hn
    obtain ⟨xt11, h11, hn⟩ := gInt_elim h
    clear h
    have h := hn
    clear hn
    obtain ⟨xt12, h12, hn⟩ := gInt_elim h
    clear h
    have h := hn
    clear hn
    obtain ⟨bt13, h13, hn⟩ := gBool_elim h
    clear h
    have h := hn
    clear hn
    rw [l0_eq (σ := σ)] at h
    have e : (ov σ [(9, .pointer (some at9)), (11, .int .i64 xt11), (12, .int .i64 xt12), (13, .bool bt13)]) = σ := ov_self (by simp [h9, h11, h12, h13])
    rw [e] at h
    exact h
def tb : List (List Nat × Spec) := [([0, 1, 0, 1, 1, 1, 1, 1], l0T)]
theorem wp_eq (pa0 : Option Addr) (xa1 : Int) (xa2 : Int) (w : World) (Q : Ending → World → Prop) :
    wp pa0 xa1 xa2 w Q = codeW Tryd.prog hT 61 D (tab tb) [] body (topQ Tryd.prog hT 61 [.tmp 6, .tmp 7, .tmp 8] Q) (argsF [.pointer pa0, .int .i64 xa1, .int .i64 xa2]) w := by kernel_rfl
theorem ok (pa0 : Option Addr) (xa1 : Int) (xa2 : Int) (w : World) (Q : Ending → World → Prop) (h : wp pa0 xa1 xa2 w Q) : Calls Tryd.prog 18 #[.pointer pa0, .int .i64 xa1, .int .i64 xa2] w Q := by
  rw [wp_eq] at h
  exact calls_of_codeW (c := body) (rs := [.tmp 6, .tmp 7, .tmp 8]) Tryd.func18 (by kernel_rfl) (by kernel_rfl) (by kernel_rfl) (by kernel_rfl) (by kernel_rfl) (tab_snd (by
    intro x hx
    simp only [tb, List.mem_cons, List.not_mem_nil, or_false] at hx
    subst hx
    exact l0_snd)) (by kernel_rfl) h
end f_wal_Open
namespace f_wal_Log_Records
/-! (*skein/wal.Log).Records: function 20 -/
noncomputable def body : Code := (Tryd.f20.body).getD .skip
def wp (aa0 : Addr) (xa1 : Int) (w : World) (Q : Ending → World → Prop) : Prop :=
  alW w (.cells #[.int .i64 xa1] 2) fun B1 w2 =>
  ldS w2 (aa0.add 7) fun A3 n3 c3 =>
  Calls Tryd.prog 43 #[.slice A3 n3 c3, .func (.func 44) #[] #[.pointer (some (⟨B1, 0, Option.none⟩ : Addr))]] w2 fun e4 w5 => ∃ (x6 : Int), e4 = .returned (.int .i64 x6) ∧ (
  sel (decide (x6 < (0 : Int))) (
  Q (.returned (.slice none 0 0)) w5) (
  ldS w5 (aa0.add 7) fun A7 n7 c7 =>
  req (decide (0 ≤ x6 ∧ x6 ≤ (n7 : Int))) <|
  Calls Tryd.prog 42 #[.slice (slA A7 x6.toNat c7 3) (n7 - x6.toNat) (c7 - x6.toNat)] w5 fun e8 w9 => ∃ (A10 : Option Addr) (n10 : Nat) (c10 : Nat), e8 = .returned (.slice A10 n10 c10) ∧ (
  Q (.returned (.slice A10 n10 c10)) w9)))
def D : Nat → Option DH := dtab []
def tb : List (List Nat × Spec) := []
theorem wp_eq (aa0 : Addr) (xa1 : Int) (w : World) (Q : Ending → World → Prop) :
    wp aa0 xa1 w Q = codeW Tryd.prog hT 21 D (tab tb) [] body (topQ Tryd.prog hT 21 [.tmp 4] Q) (argsF [.pointer (some aa0), .int .i64 xa1]) w := by kernel_rfl
theorem ok (aa0 : Addr) (xa1 : Int) (w : World) (Q : Ending → World → Prop) (h : wp aa0 xa1 w Q) : Calls Tryd.prog 20 #[.pointer (some aa0), .int .i64 xa1] w Q := by
  rw [wp_eq] at h
  exact calls_of_codeW (c := body) (rs := [.tmp 4]) Tryd.func20 (by kernel_rfl) (by kernel_rfl) (by kernel_rfl) (by kernel_rfl) (by kernel_rfl) (tab_snd (by
    intro x hx
    simp only [tb, List.not_mem_nil] at hx
    )) (by kernel_rfl) h
end f_wal_Log_Records
namespace f_wal_Log_Room
/-! (*skein/wal.Log).Room: function 21 -/
noncomputable def body : Code := (Tryd.f21.body).getD .skip
def wp (aa0 : Addr) (w : World) (Q : Ending → World → Prop) : Prop :=
  drW w fun w1 =>
  ldI w1 (aa0.add 2) .i64 fun x3 =>
  ldS w1 (aa0.add 5) fun A4 n4 c4 =>
  Q (.returned (.int .i64 (IntKind.i64.wrap ((IntKind.i64.wrap (x3 * (498 : Int))) - (n4 : Int))))) w1
def D : Nat → Option DH := dtab [(1, .simple [.fst 0, .fst 1, .fst 2, .fst 3, .fst 4, .fst 5, .fst 6, .fst 7, .fst 8, .fst 9] [.fst 10, .fst 11])]
def tb : List (List Nat × Spec) := []
theorem wp_eq (aa0 : Addr) (w : World) (Q : Ending → World → Prop) :
    wp aa0 w Q = codeW Tryd.prog hT 14 D (tab tb) [] body (topQ Tryd.prog hT 14 [.tmp 2] Q) (argsF [.pointer (some aa0)]) w := by kernel_rfl
theorem ok (aa0 : Addr) (w : World) (Q : Ending → World → Prop) (h : wp aa0 w Q) : Calls Tryd.prog 21 #[.pointer (some aa0)] w Q := by
  rw [wp_eq] at h
  exact calls_of_codeW (c := body) (rs := [.tmp 2]) Tryd.func21 (by kernel_rfl) (by kernel_rfl) (by kernel_rfl) (by kernel_rfl) (by kernel_rfl) (tab_snd (by
    intro x hx
    simp only [tb, List.not_mem_nil] at hx
    )) (by kernel_rfl) h
end f_wal_Log_Room
namespace f_wal_Log_End
/-! (*skein/wal.Log).End: function 23 -/
noncomputable def body : Code := (Tryd.f23.body).getD .skip
def wp (aa0 : Addr) (w : World) (Q : Ending → World → Prop) : Prop :=
  ldS w (aa0.add 5) fun A1 n1 c1 =>
  Calls Tryd.prog 47 #[.pointer (some aa0), .int .i64 (n1 : Int)] w fun e2 w3 => ∃ (x4 : Int), e2 = .returned (.int .i64 x4) ∧ (
  Q (.returned (.int .i64 x4)) w3)
def D : Nat → Option DH := dtab []
def tb : List (List Nat × Spec) := []
theorem wp_eq (aa0 : Addr) (w : World) (Q : Ending → World → Prop) :
    wp aa0 w Q = codeW Tryd.prog hT 10 D (tab tb) [] body (topQ Tryd.prog hT 10 [.tmp 2] Q) (argsF [.pointer (some aa0)]) w := by kernel_rfl
theorem ok (aa0 : Addr) (w : World) (Q : Ending → World → Prop) (h : wp aa0 w Q) : Calls Tryd.prog 23 #[.pointer (some aa0)] w Q := by
  rw [wp_eq] at h
  exact calls_of_codeW (c := body) (rs := [.tmp 2]) Tryd.func23 (by kernel_rfl) (by kernel_rfl) (by kernel_rfl) (by kernel_rfl) (by kernel_rfl) (tab_snd (by
    intro x hx
    simp only [tb, List.not_mem_nil] at hx
    )) (by kernel_rfl) h
end f_wal_Log_End
namespace f_wal_Log_Safe
/-! (*skein/wal.Log).Safe: function 28 -/
noncomputable def body : Code := (Tryd.f28.body).getD .skip
def wp (aa0 : Addr) (w : World) (Q : Ending → World → Prop) : Prop :=
  ldI w (aa0.add 6) .i64 fun x1 =>
  Calls Tryd.prog 47 #[.pointer (some aa0), .int .i64 x1] w fun e2 w3 => ∃ (x4 : Int), e2 = .returned (.int .i64 x4) ∧ (
  Q (.returned (.int .i64 x4)) w3)
def D : Nat → Option DH := dtab []
def tb : List (List Nat × Spec) := []
theorem wp_eq (aa0 : Addr) (w : World) (Q : Ending → World → Prop) :
    wp aa0 w Q = codeW Tryd.prog hT 9 D (tab tb) [] body (topQ Tryd.prog hT 9 [.tmp 2] Q) (argsF [.pointer (some aa0)]) w := by kernel_rfl
theorem ok (aa0 : Addr) (w : World) (Q : Ending → World → Prop) (h : wp aa0 w Q) : Calls Tryd.prog 28 #[.pointer (some aa0)] w Q := by
  rw [wp_eq] at h
  exact calls_of_codeW (c := body) (rs := [.tmp 2]) Tryd.func28 (by kernel_rfl) (by kernel_rfl) (by kernel_rfl) (by kernel_rfl) (by kernel_rfl) (tab_snd (by
    intro x hx
    simp only [tb, List.not_mem_nil] at hx
    )) (by kernel_rfl) h
end f_wal_Log_Safe
namespace f_wal_Format
/-! skein/wal.Format: function 31 -/
noncomputable def body : Code := (Tryd.f31.body).getD .skip
def wp (pa0 : Option Addr) (xa1 : Int) (xa2 : Int) (w : World) (Q : Ending → World → Prop) : Prop :=
  Calls Tryd.prog 39 #[.pointer pa0, .int .i64 xa1, .int .i64 xa2] w fun e1 w2 => ∃ (b3 : Bool), e1 = .returned (.bool b3) ∧ (
  sel b3 (
  Q (.returned (.int .i64 (1 : Int))) w2) (
  Calls Tryd.prog 34 #[.int .i64 (1 : Int), .slice none 0 0] w2 fun e4 w5 => ∃ (A6 : Option Addr) (n6 : Nat) (c6 : Nat), e4 = .returned (.slice A6 n6 c6) ∧ (
  Calls Tryd.prog 24 #[.pointer pa0, .int .i64 xa1, .slice A6 n6 c6] w5 fun e7 w8 => ∃ (x9 : Int), e7 = .returned (.int .i64 x9) ∧ (
  sel (x9 != (0 : Int)) (
  Q (.returned (.int .i64 x9)) w8) (
  Calls Tryd.prog 36 #[.pointer pa0] w8 fun e10 w11 => ∃ (x12 : Int), e10 = .returned (.int .i64 x12) ∧ (
  Q (.returned (.int .i64 x12)) w11))))))
def D : Nat → Option DH := dtab []
def tb : List (List Nat × Spec) := []
theorem wp_eq (pa0 : Option Addr) (xa1 : Int) (xa2 : Int) (w : World) (Q : Ending → World → Prop) :
    wp pa0 xa1 xa2 w Q = codeW Tryd.prog hT 21 D (tab tb) [] body (topQ Tryd.prog hT 21 [.tmp 6] Q) (argsF [.pointer pa0, .int .i64 xa1, .int .i64 xa2]) w := by kernel_rfl
theorem ok (pa0 : Option Addr) (xa1 : Int) (xa2 : Int) (w : World) (Q : Ending → World → Prop) (h : wp pa0 xa1 xa2 w Q) : Calls Tryd.prog 31 #[.pointer pa0, .int .i64 xa1, .int .i64 xa2] w Q := by
  rw [wp_eq] at h
  exact calls_of_codeW (c := body) (rs := [.tmp 6]) Tryd.func31 (by kernel_rfl) (by kernel_rfl) (by kernel_rfl) (by kernel_rfl) (by kernel_rfl) (tab_snd (by
    intro x hx
    simp only [tb, List.not_mem_nil] at hx
    )) (by kernel_rfl) h
end f_wal_Format
namespace f_wal_build
/-! skein/wal.build: function 34 -/
noncomputable def body : Code := (Tryd.f34.body).getD .skip
def l0 : Nat → Int → Option Addr → Nat → Nat → Int → World → (World → Prop) → Prop
  | 0, _, _, _, _, _, _, _ => False
  | k + 1, xt0, At5, nt5, ct5, xt8, w, K0 =>
    sel (decide (xt8 < (8 : Int))) (
    req (!decide ((IntKind.u64.wrap (IntKind.i64.wrap ((8 : Int) * xt8))) < 0)) <|
    optB At5 fun a4 =>
    req (decide (0 ≤ xt8 ∧ xt8 < (nt5 : Int))) <|
    stW w (a4.add (xt8.toNat * 1)) (.int .u8 (IntKind.u8.wrap (xt0.fdiv (2 ^ (min (IntKind.u64.wrap (IntKind.i64.wrap ((8 : Int) * xt8))).toNat 64))))) fun w5 =>
    l0 k xt0 At5 nt5 ct5 (IntKind.i64.wrap (xt8 + (1 : Int))) w5 K0) (
    K0  w)
def wp (xa0 : Int) (Aa1 : Option Addr) (na1 : Nat) (ca1 : Nat) (w : World) (Q : Ending → World → Prop) : Prop :=
  Runs Tryd.prog (Instr.makeSlice 29 (.int .i64 (508 : Int)) (.int .i64 (508 : Int))) w fun v2 w1 => ∃ (A3 : Option Addr) (n3 : Nat) (c3 : Nat), v2 = (.slice A3 n3 c3) ∧ (
  ∃ k17 : Nat, l0 k17 xa0 A3 n3 c3 (0 : Int) w1 (fun (w6 : World) => ∀ _ : Fr,
  optB A3 fun a7 =>
  req (decide (0 ≤ (8 : Int) ∧ (8 : Int) < (n3 : Int))) <|
  stW w6 (a7.add ((8 : Int).toNat * 1)) (.int .u8 (IntKind.u8.wrap (na1 : Int))) fun w8 =>
  optB A3 fun a9 =>
  req (decide (0 ≤ (9 : Int) ∧ (9 : Int) < (n3 : Int))) <|
  stW w8 (a9.add ((9 : Int).toNat * 1)) (.int .u8 (IntKind.u8.wrap ((na1 : Int).fdiv (2 ^ 8)))) fun w10 =>
  req (decide (0 ≤ (10 : Int) ∧ (10 : Int) ≤ (n3 : Int))) <|
  Runs Tryd.prog (Builtin.copy_ #[29, 29] 3 #[.slice (slA A3 10 c3 1) (n3 - 10) (c3 - 10), .slice Aa1 na1 ca1]) w10 fun v12 w11 => ∃ (x13 : Int), v12 = (.int .i64 x13) ∧ (
  Calls Tryd.prog 61 #[.slice A3 n3 c3] w11 fun e14 w15 => ∃ (A16 : Option Addr) (n16 : Nat) (c16 : Nat), e14 = .returned (.slice A16 n16 c16) ∧ (
  Q (.returned (.slice A16 n16 c16)) w15))))
def D : Nat → Option DH := dtab []
def l0LO : LO := ⟨[], [], [(0, [1, 5])], []⟩
def l0Tk (k : Nat) : Spec := fun Q σ w =>
  gInt .i64 (σ 0) fun xt0 =>
  gSlice (σ 5) fun At5 nt5 ct5 =>
  gInt .i64 (σ 8) fun xt8 =>
  l0 k xt0 At5 nt5 ct5 xt8 w (fun (w : World) => ∀ d : Fr, Q (.exit 0) (ov d [(1, σ 1), (5, .slice At5 nt5 ct5)]) w)
def l0T : Spec := fun Q σ w => ∃ k, l0Tk k Q σ w
def l0tb : List (List Nat × Spec) := []
noncomputable def l0b : Code := (subC [0, 0, 1, 0, 1, 1] body).getD .skip
theorem l0_eq (k : Nat) (xt0 : Int) (At5 : Option Addr) (nt5 : Nat) (ct5 : Nat) (xt8 : Int) (Q : PQ) (σ : Fr) (w : World) :
    l0 (k + 1) xt0 At5 nt5 ct5 xt8 w (fun (w : World) => ∀ d : Fr, Q (.exit 0) (ov d [(1, σ 1), (5, .slice At5 nt5 ct5)]) w) = codeW Tryd.prog hT 38 D (tab l0tb) [0, 0, 1, 0, 1, 1] l0b (thenQ (l0Tk k Q) (widen l0LO Q)) (ov σ [(0, .int .i64 xt0), (5, .slice At5 nt5 ct5), (8, .int .i64 xt8)]) w := by kernel_rfl
theorem l0_snd : ∀ c, subC [0, 1, 0, 1, 1] body = some c → Snd Tryd.prog 38 c l0T := by
  refine loop_of (hT := hT) (D := D) (l := l0tb) (b := l0b) (lo := l0LO) (by kernel_rfl) (by
    intro x hx
    simp only [l0tb, List.not_mem_nil] at hx
    ) (by kernel_rfl) (by kernel_rfl) ?_ ?_
  · intro Q σ w h
    unfold l0Tk at h
    obtain ⟨xt0, h0, hn⟩ := gInt_elim h
    clear h
    have h := hn
    clear hn
    obtain ⟨At5, nt5, ct5, h5, hn⟩ := gSlice_elim h
    clear h
    have h := hn
    clear hn
    obtain ⟨xt8, h8, hn⟩ := gInt_elim h
    clear h
    have h := hn
    clear hn
    exact h
  · intro k Q σ w h
    unfold l0Tk at h
    obtain ⟨xt0, h0, hn⟩ := gInt_elim h
    clear h
    have h := hn
    clear hn
    obtain ⟨At5, nt5, ct5, h5, hn⟩ := gSlice_elim h
    clear h
    have h := hn
    clear hn
    obtain ⟨xt8, h8, hn⟩ := gInt_elim h
    clear h
    have h := hn
    clear hn
    rw [l0_eq (σ := σ)] at h
    have e : (ov σ [(0, .int .i64 xt0), (5, .slice At5 nt5 ct5), (8, .int .i64 xt8)]) = σ := ov_self (by simp [h0, h5, h8])
    rw [e] at h
    exact h
def tb : List (List Nat × Spec) := [([0, 1, 0, 1, 1], l0T)]
theorem wp_eq (xa0 : Int) (Aa1 : Option Addr) (na1 : Nat) (ca1 : Nat) (w : World) (Q : Ending → World → Prop) :
    wp xa0 Aa1 na1 ca1 w Q = codeW Tryd.prog hT 38 D (tab tb) [] body (topQ Tryd.prog hT 38 [.tmp 4] Q) (argsF [.int .i64 xa0, .slice Aa1 na1 ca1]) w := by kernel_rfl
theorem ok (xa0 : Int) (Aa1 : Option Addr) (na1 : Nat) (ca1 : Nat) (w : World) (Q : Ending → World → Prop) (h : wp xa0 Aa1 na1 ca1 w Q) : Calls Tryd.prog 34 #[.int .i64 xa0, .slice Aa1 na1 ca1] w Q := by
  rw [wp_eq] at h
  exact calls_of_codeW (c := body) (rs := [.tmp 4]) Tryd.func34 (by kernel_rfl) (by kernel_rfl) (by kernel_rfl) (by kernel_rfl) (by kernel_rfl) (tab_snd (by
    intro x hx
    simp only [tb, List.mem_cons, List.not_mem_nil, or_false] at hx
    subst hx
    exact l0_snd)) (by kernel_rfl) h
end f_wal_build
namespace f_wal_Log_step
/-! (*skein/wal.Log).step: function 35 -/
noncomputable def body : Code := (Tryd.f35.body).getD .skip
def wp (aa0 : Addr) (xa1 : Int) (w : World) (Q : Ending → World → Prop) : Prop :=
  ldB w (aa0.add 9) fun b1 =>
  sel b1 (
  stW w (aa0.add 9) (.bool true) fun w2 =>
  Q (.returned (.bool (xa1 == (0 : Int)))) w2) (
  stW w (aa0.add 9) (.bool (xa1 != (0 : Int))) fun w3 =>
  Q (.returned (.bool (xa1 == (0 : Int)))) w3)
def D : Nat → Option DH := dtab []
def tb : List (List Nat × Spec) := []
theorem wp_eq (aa0 : Addr) (xa1 : Int) (w : World) (Q : Ending → World → Prop) :
    wp aa0 xa1 w Q = codeW Tryd.prog hT 18 D (tab tb) [] body (topQ Tryd.prog hT 18 [.tmp 4] Q) (argsF [.pointer (some aa0), .int .i64 xa1]) w := by kernel_rfl
theorem ok (aa0 : Addr) (xa1 : Int) (w : World) (Q : Ending → World → Prop) (h : wp aa0 xa1 w Q) : Calls Tryd.prog 35 #[.pointer (some aa0), .int .i64 xa1] w Q := by
  rw [wp_eq] at h
  exact calls_of_codeW (c := body) (rs := [.tmp 4]) Tryd.func35 (by kernel_rfl) (by kernel_rfl) (by kernel_rfl) (by kernel_rfl) (by kernel_rfl) (tab_snd (by
    intro x hx
    simp only [tb, List.not_mem_nil] at hx
    )) (by kernel_rfl) h
end f_wal_Log_step
namespace f_wal_outside
/-! skein/wal.outside: function 39 -/
noncomputable def body : Code := (Tryd.f39.body).getD .skip
def wp (pa0 : Option Addr) (xa1 : Int) (xa2 : Int) (w : World) (Q : Ending → World → Prop) : Prop :=
  sel (decide (xa1 < (0 : Int))) (
  Q (.returned (.bool true)) w) (
  sel (decide (xa2 < (1 : Int))) (
  Q (.returned (.bool true)) w) (
  Calls Tryd.prog 64 #[.pointer pa0] w fun e1 w2 => ∃ (x3 : Int), e1 = .returned (.int .i64 x3) ∧ (
  sel (decide (xa2 > x3)) (
  Q (.returned (.bool true)) w2) (
  Calls Tryd.prog 64 #[.pointer pa0] w2 fun e4 w5 => ∃ (x6 : Int), e4 = .returned (.int .i64 x6) ∧ (
  Q (.returned (.bool (decide (xa1 > (IntKind.i64.wrap (x6 - xa2)))))) w5)))))
def D : Nat → Option DH := dtab []
def tb : List (List Nat × Spec) := []
theorem wp_eq (pa0 : Option Addr) (xa1 : Int) (xa2 : Int) (w : World) (Q : Ending → World → Prop) :
    wp pa0 xa1 xa2 w Q = codeW Tryd.prog hT 27 D (tab tb) [] body (topQ Tryd.prog hT 27 [.tmp 6] Q) (argsF [.pointer pa0, .int .i64 xa1, .int .i64 xa2]) w := by kernel_rfl
theorem ok (pa0 : Option Addr) (xa1 : Int) (xa2 : Int) (w : World) (Q : Ending → World → Prop) (h : wp pa0 xa1 xa2 w Q) : Calls Tryd.prog 39 #[.pointer pa0, .int .i64 xa1, .int .i64 xa2] w Q := by
  rw [wp_eq] at h
  exact calls_of_codeW (c := body) (rs := [.tmp 6]) Tryd.func39 (by kernel_rfl) (by kernel_rfl) (by kernel_rfl) (by kernel_rfl) (by kernel_rfl) (tab_snd (by
    intro x hx
    simp only [tb, List.not_mem_nil] at hx
    )) (by kernel_rfl) h
end f_wal_outside
namespace f_wal_Log_load
/-! (*skein/wal.Log).load: function 40 -/
noncomputable def body : Code := (Tryd.f40.body).getD .skip
def j3 (at0 : Addr) (xt7 : Int) (w : World) (Kn : World → Prop) : Prop :=
  ldI w (at0.add 4) .i64 fun x19 =>
  stW w (at0.add 4) (.int .i64 (if xt7 > x19 then xt7 else x19)) fun w20 =>
  Kn  w20
def j2 (at0 : Addr) (bt3 : Bool) (xt7 : Int) (At8 : Option Addr) (nt8 : Nat) (ct8 : Nat) (bt9 : Bool) (w : World) (Kn : Bool → World → Prop) : Prop :=
  sel bt3 (
  sel bt9 (
  ldI w (at0.add 3) .i64 fun x13 =>
  sel (xt7 == x13) (
  ldS w (at0.add 5) fun A14 n14 c14 =>
  Runs Tryd.prog (Builtin.append_ #[29, 29] 29 #[.slice A14 n14 c14, .slice At8 nt8 ct8]) w fun v16 w15 => ∃ (A17 : Option Addr) (n17 : Nat) (c17 : Nat), v16 = (.slice A17 n17 c17) ∧ (
  stW w15 (at0.add 5) (.slice A17 n17 c17) fun w18 =>
  j3 at0 xt7 w18 (fun (w21 : World) => ∀ _ : Fr,
  Kn ((nt8 : Int) == (498 : Int)) w21))) (
  j3 at0 xt7 w (fun (w22 : World) => ∀ _ : Fr,
  Kn (xt7 == x13) w22))) (
  j3 at0 xt7 w (fun (w23 : World) => ∀ _ : Fr,
  Kn false w23))) (
  j3 at0 xt7 w (fun (w24 : World) => ∀ _ : Fr,
  Kn false w24))
def j1 (at0 : Addr) (bt3 : Bool) (xt4 : Int) (xt7 : Int) (At8 : Option Addr) (nt8 : Nat) (ct8 : Nat) (bt9 : Bool) (w : World) (Kn : Bool → World → Prop) : Prop :=
  sel (xt4 == (0 : Int)) (
  stW w (at0.add 3) (.int .i64 xt7) fun w12 =>
  j2 at0 bt3 xt7 At8 nt8 ct8 bt9 w12 (fun (b25 : Bool) (w26 : World) => ∀ _ : Fr,
  Kn b25 w26)) (
  j2 at0 bt3 xt7 At8 nt8 ct8 bt9 w (fun (b27 : Bool) (w28 : World) => ∀ _ : Fr,
  Kn b27 w28))
def l0 : Nat → Addr → Bool → Int → Int → World → (World → Prop) → (Int → World → Prop) → Prop
  | 0, _, _, _, _, _, _, _ => False
  | k + 1, at0, bt3, xt13, xt14, w, K0, Kr =>
    sel (decide (xt14 < xt13)) (
    drW w fun w2 =>
    ldP w2 at0 fun p4 =>
    ldI w2 (at0.add 1) .i64 fun x5 =>
    Calls Tryd.prog 65 #[.pointer p4, .int .i64 (IntKind.i64.wrap (x5 + xt14))] w2 fun e6 w7 => ∃ (A8_0 : Option Addr) (n8_0 : Nat) (c8_0 : Nat) (x8_1 : Int), e6 = .returned (.tuple #[.slice A8_0 n8_0 c8_0, .int .i64 x8_1]) ∧ (
    sel (x8_1 != (0 : Int)) (
    Kr x8_1 w7) (
    Calls Tryd.prog 66 #[.slice A8_0 n8_0 c8_0] w7 fun e9 w10 => ∃ (x11_0 : Int) (A11_1 : Option Addr) (n11_1 : Nat) (c11_1 : Nat) (b11_2 : Bool), e9 = .returned (.tuple #[.int .i64 x11_0, .slice A11_1 n11_1 c11_1, .bool b11_2]) ∧ (
    sel (!b11_2) (
    j1 at0 bt3 xt14 (0 : Int) A11_1 n11_1 c11_1 b11_2 w10 (fun (b29 : Bool) (w30 : World) => ∀ _ : Fr,
    l0 k at0 b29 xt13 (IntKind.i64.wrap (xt14 + (1 : Int))) w30 K0 Kr)) (
    j1 at0 bt3 xt14 x11_0 A11_1 n11_1 c11_1 b11_2 w10 (fun (b31 : Bool) (w32 : World) => ∀ _ : Fr,
    l0 k at0 b31 xt13 (IntKind.i64.wrap (xt14 + (1 : Int))) w32 K0 Kr)))))) (
    K0  w)
def wp (aa0 : Addr) (w : World) (Q : Ending → World → Prop) : Prop :=
  ldI w (aa0.add 2) .i64 fun x1 =>
  ∃ k37 : Nat, l0 k37 aa0 true x1 (0 : Int) w (fun (w33 : World) => ∀ _ : Fr,
  ldI w33 (aa0.add 3) .i64 fun x34 =>
  sel (x34 == (0 : Int)) (
  Q (.returned (.int .i64 (6 : Int))) w33) (
  Q (.returned (.int .i64 (0 : Int))) w33)) (fun (x35 : Int) (w36 : World) => ∀ _ : Fr,
  Q (.returned (.int .i64 x35)) w36)
def D : Nat → Option DH := dtab [(5, .simple [.fst 0, .fst 1, .fst 2, .fst 3, .fst 4, .fst 5, .fst 6, .fst 7, .fst 8, .fst 9] [.eff 10, .fst 11, .fst 12, .fst 13, .fst 14, .fst 15])]
def j3LO : LO := ⟨[0, 3, 13, 14], [], [], []⟩
def j3T : Spec := fun Q σ w =>
  gAd (σ 0) fun at0 =>
  gInt .i64 (σ 7) fun xt7 =>
  j3 at0 xt7 w (fun (w : World) => ∀ d : Fr, Q .normal (ov d [(0, .pointer (some at0)), (3, σ 3), (13, σ 13), (14, σ 14)]) w)
def j3tb : List (List Nat × Spec) := []
noncomputable def j3b : Code := (subC [1, 1, 1, 1, 1, 1, 1, 0, 0, 1, 1, 0, 0, 1, 0, 1, 1] body).getD .skip
theorem j3_eq (at0 : Addr) (xt7 : Int) (Q : PQ) (σ : Fr) (w : World) :
    j3 at0 xt7 w (fun (w : World) => ∀ d : Fr, Q .normal (ov d [(0, .pointer (some at0)), (3, σ 3), (13, σ 13), (14, σ 14)]) w) = codeW Tryd.prog hT 88 D (tab j3tb) [1, 1, 1, 1, 1, 1, 1, 0, 0, 1, 1, 0, 0, 1, 0, 1, 1] j3b (widen j3LO Q) (ov σ [(0, .pointer (some at0)), (7, .int .i64 xt7)]) w := by kernel_rfl
theorem j3_snd : ∀ c, subC [1, 1, 1, 1, 1, 1, 1, 0, 0, 1, 1, 0, 0, 1, 0, 1, 1] body = some c → Snd Tryd.prog 88 c j3T := by
  refine cut_of (hT := hT) (D := D) (l := j3tb) (b := j3b) (lo := j3LO) (by kernel_rfl) (by
    intro x hx
    simp only [j3tb, List.not_mem_nil] at hx
    ) (by kernel_rfl) (by kernel_rfl) ?_
  intro Q σ w h
  unfold j3T at h
  obtain ⟨at0, h0, hn⟩ := gAd_elim h
  clear h
  have h := hn
  clear hn
  obtain ⟨xt7, h7, hn⟩ := gInt_elim h
  clear h
  have h := hn
  clear hn
  rw [j3_eq (σ := σ)] at h
  have e : (ov σ [(0, .pointer (some at0)), (7, .int .i64 xt7)]) = σ := ov_self (by simp [h0, h7])
  rw [e] at h
  exact h
def j2LO : LO := ⟨[0, 3, 13, 14], [], [], []⟩
def j2T : Spec := fun Q σ w =>
  gAd (σ 0) fun at0 =>
  gBool (σ 3) fun bt3 =>
  gInt .i64 (σ 7) fun xt7 =>
  gSlice (σ 8) fun At8 nt8 ct8 =>
  gBool (σ 9) fun bt9 =>
  j2 at0 bt3 xt7 At8 nt8 ct8 bt9 w (fun (bq3 : Bool) (w : World) => ∀ d : Fr, Q .normal (ov d [(0, .pointer (some at0)), (3, .bool bq3), (13, σ 13), (14, σ 14)]) w)
def j2tb : List (List Nat × Spec) := [([1, 1, 1, 1, 1, 1, 1, 0, 0, 1, 1, 0, 0, 1, 0, 1, 1], j3T)]
noncomputable def j2b : Code := (subC [1, 1, 1, 1, 1, 1, 0, 0, 1, 1, 0, 0, 1, 0, 1, 1] body).getD .skip
theorem j2_eq (at0 : Addr) (bt3 : Bool) (xt7 : Int) (At8 : Option Addr) (nt8 : Nat) (ct8 : Nat) (bt9 : Bool) (Q : PQ) (σ : Fr) (w : World) :
    j2 at0 bt3 xt7 At8 nt8 ct8 bt9 w (fun (bq3 : Bool) (w : World) => ∀ d : Fr, Q .normal (ov d [(0, .pointer (some at0)), (3, .bool bq3), (13, σ 13), (14, σ 14)]) w) = codeW Tryd.prog hT 88 D (tab j2tb) [1, 1, 1, 1, 1, 1, 0, 0, 1, 1, 0, 0, 1, 0, 1, 1] j2b (widen j2LO Q) (ov σ [(0, .pointer (some at0)), (3, .bool bt3), (7, .int .i64 xt7), (8, .slice At8 nt8 ct8), (9, .bool bt9)]) w := by cases bt3 <;> cases bt9 <;> kernel_rfl
theorem j2_snd : ∀ c, subC [1, 1, 1, 1, 1, 1, 0, 0, 1, 1, 0, 0, 1, 0, 1, 1] body = some c → Snd Tryd.prog 88 c j2T := by
  refine cut_of (hT := hT) (D := D) (l := j2tb) (b := j2b) (lo := j2LO) (by kernel_rfl) (by
    intro x hx
    simp only [j2tb, List.mem_cons, List.not_mem_nil, or_false] at hx
    subst hx
    exact j3_snd) (by kernel_rfl) (by kernel_rfl) ?_
  intro Q σ w h
  unfold j2T at h
  obtain ⟨at0, h0, hn⟩ := gAd_elim h
  clear h
  have h := hn
  clear hn
  obtain ⟨bt3, h3, hn⟩ := gBool_elim h
  clear h
  have h := hn
  clear hn
  obtain ⟨xt7, h7, hn⟩ := gInt_elim h
  clear h
  have h := hn
  clear hn
  obtain ⟨At8, nt8, ct8, h8, hn⟩ := gSlice_elim h
  clear h
  have h := hn
  clear hn
  obtain ⟨bt9, h9, hn⟩ := gBool_elim h
  clear h
  have h := hn
  clear hn
  rw [j2_eq (σ := σ)] at h
  have e : (ov σ [(0, .pointer (some at0)), (3, .bool bt3), (7, .int .i64 xt7), (8, .slice At8 nt8 ct8), (9, .bool bt9)]) = σ := ov_self (by simp [h0, h3, h7, h8, h9])
  rw [e] at h
  exact h
def j1LO : LO := ⟨[0, 3, 13, 14], [], [], []⟩
def j1T : Spec := fun Q σ w =>
  gAd (σ 0) fun at0 =>
  gBool (σ 3) fun bt3 =>
  gInt .i64 (σ 4) fun xt4 =>
  gInt .i64 (σ 7) fun xt7 =>
  gSlice (σ 8) fun At8 nt8 ct8 =>
  gBool (σ 9) fun bt9 =>
  j1 at0 bt3 xt4 xt7 At8 nt8 ct8 bt9 w (fun (bq3 : Bool) (w : World) => ∀ d : Fr, Q .normal (ov d [(0, .pointer (some at0)), (3, .bool bq3), (13, σ 13), (14, σ 14)]) w)
def j1tb : List (List Nat × Spec) := [([1, 1, 1, 1, 1, 1, 1, 0, 0, 1, 1, 0, 0, 1, 0, 1, 1], j3T), ([1, 1, 1, 1, 1, 1, 0, 0, 1, 1, 0, 0, 1, 0, 1, 1], j2T)]
noncomputable def j1b : Code := (subC [1, 1, 1, 1, 1, 0, 0, 1, 1, 0, 0, 1, 0, 1, 1] body).getD .skip
theorem j1_eq (at0 : Addr) (bt3 : Bool) (xt4 : Int) (xt7 : Int) (At8 : Option Addr) (nt8 : Nat) (ct8 : Nat) (bt9 : Bool) (Q : PQ) (σ : Fr) (w : World) :
    j1 at0 bt3 xt4 xt7 At8 nt8 ct8 bt9 w (fun (bq3 : Bool) (w : World) => ∀ d : Fr, Q .normal (ov d [(0, .pointer (some at0)), (3, .bool bq3), (13, σ 13), (14, σ 14)]) w) = codeW Tryd.prog hT 88 D (tab j1tb) [1, 1, 1, 1, 1, 0, 0, 1, 1, 0, 0, 1, 0, 1, 1] j1b (widen j1LO Q) (ov σ [(0, .pointer (some at0)), (3, .bool bt3), (4, .int .i64 xt4), (7, .int .i64 xt7), (8, .slice At8 nt8 ct8), (9, .bool bt9)]) w := by cases bt3 <;> cases bt9 <;> kernel_rfl
theorem j1_snd : ∀ c, subC [1, 1, 1, 1, 1, 0, 0, 1, 1, 0, 0, 1, 0, 1, 1] body = some c → Snd Tryd.prog 88 c j1T := by
  refine cut_of (hT := hT) (D := D) (l := j1tb) (b := j1b) (lo := j1LO) (by kernel_rfl) (by
    intro x hx
    simp only [j1tb, List.mem_cons, List.not_mem_nil, or_false] at hx
    rcases hx with rfl | rfl
    · exact j3_snd
    · exact j2_snd) (by kernel_rfl) (by kernel_rfl) ?_
  intro Q σ w h
  unfold j1T at h
  obtain ⟨at0, h0, hn⟩ := gAd_elim h
  clear h
  have h := hn
  clear hn
  obtain ⟨bt3, h3, hn⟩ := gBool_elim h
  clear h
  have h := hn
  clear hn
  obtain ⟨xt4, h4, hn⟩ := gInt_elim h
  clear h
  have h := hn
  clear hn
  obtain ⟨xt7, h7, hn⟩ := gInt_elim h
  clear h
  have h := hn
  clear hn
  obtain ⟨At8, nt8, ct8, h8, hn⟩ := gSlice_elim h
  clear h
  have h := hn
  clear hn
  obtain ⟨bt9, h9, hn⟩ := gBool_elim h
  clear h
  have h := hn
  clear hn
  rw [j1_eq (σ := σ)] at h
  have e : (ov σ [(0, .pointer (some at0)), (3, .bool bt3), (4, .int .i64 xt4), (7, .int .i64 xt7), (8, .slice At8 nt8 ct8), (9, .bool bt9)]) = σ := ov_self (by simp [h0, h3, h4, h7, h8, h9])
  rw [e] at h
  exact h
def l0LO : LO := ⟨[], [2], [(0, [0])], []⟩
def l0Tk (k : Nat) : Spec := fun Q σ w =>
  gAd (σ 0) fun at0 =>
  gBool (σ 3) fun bt3 =>
  gInt .i64 (σ 13) fun xt13 =>
  gInt .i64 (σ 14) fun xt14 =>
  l0 k at0 bt3 xt13 xt14 w (fun (w : World) => ∀ d : Fr, Q (.exit 0) (ov d [(0, .pointer (some at0))]) w) (fun (xq2 : Int) (w : World) => ∀ d : Fr, Q .ret (ov d [(2, .int .i64 xq2)]) w)
def l0T : Spec := fun Q σ w => ∃ k, l0Tk k Q σ w
def l0tb : List (List Nat × Spec) := [([1, 1, 1, 1, 1, 1, 1, 0, 0, 1, 1, 0, 0, 1, 0, 1, 1], j3T), ([1, 1, 1, 1, 1, 1, 0, 0, 1, 1, 0, 0, 1, 0, 1, 1], j2T), ([1, 1, 1, 1, 1, 0, 0, 1, 1, 0, 0, 1, 0, 1, 1], j1T)]
noncomputable def l0b : Code := (subC [0, 0, 1, 0, 1, 1] body).getD .skip
theorem l0_eq (k : Nat) (at0 : Addr) (bt3 : Bool) (xt13 : Int) (xt14 : Int) (Q : PQ) (σ : Fr) (w : World) :
    l0 (k + 1) at0 bt3 xt13 xt14 w (fun (w : World) => ∀ d : Fr, Q (.exit 0) (ov d [(0, .pointer (some at0))]) w) (fun (xq2 : Int) (w : World) => ∀ d : Fr, Q .ret (ov d [(2, .int .i64 xq2)]) w) = codeW Tryd.prog hT 88 D (tab l0tb) [0, 0, 1, 0, 1, 1] l0b (thenQ (l0Tk k Q) (widen l0LO Q)) (ov σ [(0, .pointer (some at0)), (3, .bool bt3), (13, .int .i64 xt13), (14, .int .i64 xt14)]) w := by cases bt3 <;> kernel_rfl
theorem l0_snd : ∀ c, subC [0, 1, 0, 1, 1] body = some c → Snd Tryd.prog 88 c l0T := by
  refine loop_of (hT := hT) (D := D) (l := l0tb) (b := l0b) (lo := l0LO) (by kernel_rfl) (by
    intro x hx
    simp only [l0tb, List.mem_cons, List.not_mem_nil, or_false] at hx
    rcases hx with rfl | rfl | rfl
    · exact j3_snd
    · exact j2_snd
    · exact j1_snd) (by kernel_rfl) (by kernel_rfl) ?_ ?_
  · intro Q σ w h
    unfold l0Tk at h
    obtain ⟨at0, h0, hn⟩ := gAd_elim h
    clear h
    have h := hn
    clear hn
    obtain ⟨bt3, h3, hn⟩ := gBool_elim h
    clear h
    have h := hn
    clear hn
    obtain ⟨xt13, h13, hn⟩ := gInt_elim h
    clear h
    have h := hn
    clear hn
    obtain ⟨xt14, h14, hn⟩ := gInt_elim h
    clear h
    have h := hn
    clear hn
    exact h
  · intro k Q σ w h
    unfold l0Tk at h
    obtain ⟨at0, h0, hn⟩ := gAd_elim h
    clear h
    have h := hn
    clear hn
    obtain ⟨bt3, h3, hn⟩ := gBool_elim h
    clear h
    have h := hn
    clear hn
    obtain ⟨xt13, h13, hn⟩ := gInt_elim h
    clear h
    have h := hn
    clear hn
    obtain ⟨xt14, h14, hn⟩ := gInt_elim h
    clear h
    have h := hn
    clear hn
    rw [l0_eq (σ := σ)] at h
    have e : (ov σ [(0, .pointer (some at0)), (3, .bool bt3), (13, .int .i64 xt13), (14, .int .i64 xt14)]) = σ := ov_self (by simp [h0, h3, h13, h14])
    rw [e] at h
    exact h
def tb : List (List Nat × Spec) := [([1, 1, 1, 1, 1, 1, 1, 0, 0, 1, 1, 0, 0, 1, 0, 1, 1], j3T), ([1, 1, 1, 1, 1, 1, 0, 0, 1, 1, 0, 0, 1, 0, 1, 1], j2T), ([1, 1, 1, 1, 1, 0, 0, 1, 1, 0, 0, 1, 0, 1, 1], j1T), ([0, 1, 0, 1, 1], l0T)]
theorem wp_eq (aa0 : Addr) (w : World) (Q : Ending → World → Prop) :
    wp aa0 w Q = codeW Tryd.prog hT 88 D (tab tb) [] body (topQ Tryd.prog hT 88 [.tmp 2] Q) (argsF [.pointer (some aa0)]) w := by kernel_rfl
theorem ok (aa0 : Addr) (w : World) (Q : Ending → World → Prop) (h : wp aa0 w Q) : Calls Tryd.prog 40 #[.pointer (some aa0)] w Q := by
  rw [wp_eq] at h
  exact calls_of_codeW (c := body) (rs := [.tmp 2]) Tryd.func40 (by kernel_rfl) (by kernel_rfl) (by kernel_rfl) (by kernel_rfl) (by kernel_rfl) (tab_snd (by
    intro x hx
    simp only [tb, List.mem_cons, List.not_mem_nil, or_false] at hx
    rcases hx with rfl | rfl | rfl | rfl
    · exact j3_snd
    · exact j2_snd
    · exact j1_snd
    · exact l0_snd)) (by kernel_rfl) h
end f_wal_Log_load
namespace f_wal_Log_take
/-! (*skein/wal.Log).take: function 41 -/
noncomputable def body : Code := (Tryd.f41.body).getD .skip
def wp (aa0 : Addr) (xa1 : Int) (w : World) (Q : Ending → World → Prop) : Prop :=
  ldS w (aa0.add 5) fun A1 n1 c1 =>
  sel (decide (xa1 ≥ (n1 : Int))) (
  Q (.returned (.tuple #[.int .i64 (0 : Int), .bool false])) w) (
  ldS w (aa0.add 5) fun A2 n2 c2 =>
  optB A2 fun a3 =>
  req (decide (0 ≤ xa1 ∧ xa1 < (n2 : Int))) <|
  ldI w (a3.add (xa1.toNat * 1)) .u8 fun x4 =>
  sel (x4 == (0 : Int)) (
  Q (.returned (.tuple #[.int .i64 (0 : Int), .bool false])) w) (
  ldS w (aa0.add 5) fun A5 n5 c5 =>
  Calls Tryd.prog 67 #[.slice A5 n5 c5, .int .i64 (IntKind.i64.wrap (xa1 + (1 : Int))), .int .i64 (1200 : Int)] w fun e6 w7 => ∃ (A8_0 : Option Addr) (n8_0 : Nat) (c8_0 : Nat) (x8_1 : Int) (x8_2 : Int), e6 = .returned (.tuple #[.slice A8_0 n8_0 c8_0, .int .i64 x8_1, .int .i64 x8_2]) ∧ (
  sel (x8_2 != (0 : Int)) (
  Q (.returned (.tuple #[.int .i64 (0 : Int), .bool false])) w7) (
  drW w7 fun w9 =>
  ∃ S10 : World → Prop, S10 w9 ∧ (
  hdS S10 (aa0.add 7) fun A11 n11 c11 =>
  hdS S10 (aa0.add 5) fun A12 n12 c12 =>
  optB A12 fun a13 =>
  req (decide (0 ≤ xa1 ∧ xa1 < (n12 : Int))) <|
  hdI S10 (a13.add (xa1.toNat * 1)) .u8 fun x14 =>
  Calls Tryd.prog 47 #[.pointer (some aa0), .int .i64 xa1] w9 fun e15 w16 => ∃ (x17 : Int), e15 = .returned (.int .i64 x17) ∧ (
  S10 w16 ∧ (
  alW w16 (.cells #[.int .i64 x17, .int .i64 (IntKind.i64.wrap x14), .slice A8_0 n8_0 c8_0] 39) fun B18 w19 =>
  S10 w19 ∧ (
  Runs Tryd.prog (Builtin.append_ #[28, 28] 28 #[.slice A11 n11 c11, .slice (some (⟨B18, 0, Option.none⟩ : Addr)) 1 1]) w19 fun v21 w20 => ∃ (A22 : Option Addr) (n22 : Nat) (c22 : Nat), v21 = (.slice A22 n22 c22) ∧ (
  S10 w20 ∧ (
  stW w20 (aa0.add 7) (.slice A22 n22 c22) fun w23 =>
  Q (.returned (.tuple #[.int .i64 x8_1, .bool true])) w23))))))))))
def D : Nat → Option DH := dtab [(6, .held [.fst 0, .fst 1, .fst 2, .fst 3, .fst 4, .fst 5, .fst 6, .fst 8, .fst 9, .fst 10, .fst 11, .fst 12, .fst 13, .fst 14, .fst 15, .fst 16, .eff 7, .fst 17, .eff 18, .eff 19] [.fst 20, .fst 21, .eff 22])]
def tb : List (List Nat × Spec) := []
theorem wp_eq (aa0 : Addr) (xa1 : Int) (w : World) (Q : Ending → World → Prop) :
    wp aa0 xa1 w Q = codeW Tryd.prog hT 62 D (tab tb) [] body (topQ Tryd.prog hT 62 [.tmp 4, .tmp 5] Q) (argsF [.pointer (some aa0), .int .i64 xa1]) w := by kernel_rfl
theorem ok (aa0 : Addr) (xa1 : Int) (w : World) (Q : Ending → World → Prop) (h : wp aa0 xa1 w Q) : Calls Tryd.prog 41 #[.pointer (some aa0), .int .i64 xa1] w Q := by
  rw [wp_eq] at h
  exact calls_of_codeW (c := body) (rs := [.tmp 4, .tmp 5]) Tryd.func41 (by kernel_rfl) (by kernel_rfl) (by kernel_rfl) (by kernel_rfl) (by kernel_rfl) (tab_snd (by
    intro x hx
    simp only [tb, List.not_mem_nil] at hx
    )) (by kernel_rfl) h
end f_wal_Log_take
namespace f_wal_clone
/-! skein/wal.clone: function 42 -/
noncomputable def body : Code := (Tryd.f42.body).getD .skip
def l0 : Nat → Option Addr → Nat → Nat → Option Addr → Nat → Nat → Int → Int → World → (World → Prop) → Prop
  | 0, _, _, _, _, _, _, _, _, _, _ => False
  | k + 1, At3, nt3, ct3, At8, nt8, ct8, xt9, xt10, w, K0 =>
    sel (decide (xt10 < xt9)) (
    optB At8 fun a4 =>
    req (decide (0 ≤ xt10 ∧ xt10 < (nt8 : Int))) <|
    ldI w (a4.add (xt10.toNat * 3)) .i64 fun x5 =>
    ldI w ((a4.add (xt10.toNat * 3)).add 1) .i64 fun x6 =>
    ldS w ((a4.add (xt10.toNat * 3)).add 2) fun A7 n7 c7 =>
    alW w (.cells #[.int .i64 (0 : Int), .int .i64 (0 : Int), .slice none 0 0] 39) fun B8 w9 =>
    stW w9 (⟨B8, 0, Option.none⟩ : Addr) (.int .i64 x5) fun w10 =>
    stW w10 ((⟨B8, 0, Option.none⟩ : Addr).add 1) (.int .i64 x6) fun w11 =>
    stW w11 ((⟨B8, 0, Option.none⟩ : Addr).add 2) (.slice A7 n7 c7) fun w12 =>
    ldS w12 ((⟨B8, 0, Option.none⟩ : Addr).add 2) fun A13 n13 c13 =>
    Calls Tryd.prog 33 #[.slice A13 n13 c13] w12 fun e14 w15 => ∃ (A16 : Option Addr) (n16 : Nat) (c16 : Nat), e14 = .returned (.slice A16 n16 c16) ∧ (
    optB At3 fun a17 =>
    req (decide (0 ≤ xt10 ∧ xt10 < (nt3 : Int))) <|
    stW w15 ((a17.add (xt10.toNat * 3)).add 2) (.slice A16 n16 c16) fun w18 =>
    l0 k At3 nt3 ct3 At8 nt8 ct8 xt9 (IntKind.i64.wrap (xt10 + (1 : Int))) w18 K0)) (
    K0  w)
def wp (Aa0 : Option Addr) (na0 : Nat) (ca0 : Nat) (w : World) (Q : Ending → World → Prop) : Prop :=
  Calls Tryd.prog 68 #[.slice Aa0 na0 ca0] w fun e1 w2 => ∃ (A3 : Option Addr) (n3 : Nat) (c3 : Nat), e1 = .returned (.slice A3 n3 c3) ∧ (
  ∃ k20 : Nat, l0 k20 A3 n3 c3 A3 n3 c3 (n3 : Int) (0 : Int) w2 (fun (w19 : World) => ∀ _ : Fr,
  Q (.returned (.slice A3 n3 c3)) w19))
def D : Nat → Option DH := dtab []
def l0LO : LO := ⟨[], [], [(0, [3])], []⟩
def l0Tk (k : Nat) : Spec := fun Q σ w =>
  gSlice (σ 3) fun At3 nt3 ct3 =>
  gSlice (σ 8) fun At8 nt8 ct8 =>
  gInt .i64 (σ 9) fun xt9 =>
  gInt .i64 (σ 10) fun xt10 =>
  l0 k At3 nt3 ct3 At8 nt8 ct8 xt9 xt10 w (fun (w : World) => ∀ d : Fr, Q (.exit 0) (ov d [(3, .slice At3 nt3 ct3)]) w)
def l0T : Spec := fun Q σ w => ∃ k, l0Tk k Q σ w
def l0tb : List (List Nat × Spec) := []
noncomputable def l0b : Code := (subC [0, 0, 1, 0, 1, 1] body).getD .skip
theorem l0_eq (k : Nat) (At3 : Option Addr) (nt3 : Nat) (ct3 : Nat) (At8 : Option Addr) (nt8 : Nat) (ct8 : Nat) (xt9 : Int) (xt10 : Int) (Q : PQ) (σ : Fr) (w : World) :
    l0 (k + 1) At3 nt3 ct3 At8 nt8 ct8 xt9 xt10 w (fun (w : World) => ∀ d : Fr, Q (.exit 0) (ov d [(3, .slice At3 nt3 ct3)]) w) = codeW Tryd.prog hT 24 D (tab l0tb) [0, 0, 1, 0, 1, 1] l0b (thenQ (l0Tk k Q) (widen l0LO Q)) (ov σ [(3, .slice At3 nt3 ct3), (8, .slice At8 nt8 ct8), (9, .int .i64 xt9), (10, .int .i64 xt10)]) w := by kernel_rfl
theorem l0_snd : ∀ c, subC [0, 1, 0, 1, 1] body = some c → Snd Tryd.prog 24 c l0T := by
  refine loop_of (hT := hT) (D := D) (l := l0tb) (b := l0b) (lo := l0LO) (by kernel_rfl) (by
    intro x hx
    simp only [l0tb, List.not_mem_nil] at hx
    ) (by kernel_rfl) (by kernel_rfl) ?_ ?_
  · intro Q σ w h
    unfold l0Tk at h
    obtain ⟨At3, nt3, ct3, h3, hn⟩ := gSlice_elim h
    clear h
    have h := hn
    clear hn
    obtain ⟨At8, nt8, ct8, h8, hn⟩ := gSlice_elim h
    clear h
    have h := hn
    clear hn
    obtain ⟨xt9, h9, hn⟩ := gInt_elim h
    clear h
    have h := hn
    clear hn
    obtain ⟨xt10, h10, hn⟩ := gInt_elim h
    clear h
    have h := hn
    clear hn
    exact h
  · intro k Q σ w h
    unfold l0Tk at h
    obtain ⟨At3, nt3, ct3, h3, hn⟩ := gSlice_elim h
    clear h
    have h := hn
    clear hn
    obtain ⟨At8, nt8, ct8, h8, hn⟩ := gSlice_elim h
    clear h
    have h := hn
    clear hn
    obtain ⟨xt9, h9, hn⟩ := gInt_elim h
    clear h
    have h := hn
    clear hn
    obtain ⟨xt10, h10, hn⟩ := gInt_elim h
    clear h
    have h := hn
    clear hn
    rw [l0_eq (σ := σ)] at h
    have e : (ov σ [(3, .slice At3 nt3 ct3), (8, .slice At8 nt8 ct8), (9, .int .i64 xt9), (10, .int .i64 xt10)]) = σ := ov_self (by simp [h3, h8, h9, h10])
    rw [e] at h
    exact h
def tb : List (List Nat × Spec) := [([0, 1, 0, 1, 1], l0T)]
theorem wp_eq (Aa0 : Option Addr) (na0 : Nat) (ca0 : Nat) (w : World) (Q : Ending → World → Prop) :
    wp Aa0 na0 ca0 w Q = codeW Tryd.prog hT 24 D (tab tb) [] body (topQ Tryd.prog hT 24 [.tmp 2] Q) (argsF [.slice Aa0 na0 ca0]) w := by kernel_rfl
theorem ok (Aa0 : Option Addr) (na0 : Nat) (ca0 : Nat) (w : World) (Q : Ending → World → Prop) (h : wp Aa0 na0 ca0 w Q) : Calls Tryd.prog 42 #[.slice Aa0 na0 ca0] w Q := by
  rw [wp_eq] at h
  exact calls_of_codeW (c := body) (rs := [.tmp 2]) Tryd.func42 (by kernel_rfl) (by kernel_rfl) (by kernel_rfl) (by kernel_rfl) (by kernel_rfl) (tab_snd (by
    intro x hx
    simp only [tb, List.mem_cons, List.not_mem_nil, or_false] at hx
    subst hx
    exact l0_snd)) (by kernel_rfl) h
end f_wal_clone
namespace f_wal_Log_Records_1
/-! (*skein/wal.Log).Records$1: function 44 -/
noncomputable def body : Code := (Tryd.f44.body).getD .skip
def wp (xa0_0 : Int) (xa0_1 : Int) (Aa0_2 : Option Addr) (na0_2 : Nat) (ca0_2 : Nat) (ac0 : Addr) (w : World) (Q : Ending → World → Prop) : Prop :=
  alW w (.cells #[.int .i64 xa0_0, .int .i64 xa0_1, .slice Aa0_2 na0_2 ca0_2] 39) fun B1 w2 =>
  ldI w2 (⟨B1, 0, Option.none⟩ : Addr) .i64 fun x3 =>
  ldI w2 ac0 .i64 fun x4 =>
  Q (.returned (.bool (decide (x3 ≥ x4)))) w2
def D : Nat → Option DH := dtab []
def tb : List (List Nat × Spec) := []
theorem wp_eq (xa0_0 : Int) (xa0_1 : Int) (Aa0_2 : Option Addr) (na0_2 : Nat) (ca0_2 : Nat) (ac0 : Addr) (w : World) (Q : Ending → World → Prop) :
    wp xa0_0 xa0_1 Aa0_2 na0_2 ca0_2 ac0 w Q = codeW Tryd.prog hT 8 D (tab tb) [] body (topQ Tryd.prog hT 8 [.tmp 3] Q) (argsF [.agg #[.int .i64 xa0_0, .int .i64 xa0_1, .slice Aa0_2 na0_2 ca0_2], .pointer (some ac0)]) w := by kernel_rfl
theorem ok (xa0_0 : Int) (xa0_1 : Int) (Aa0_2 : Option Addr) (na0_2 : Nat) (ca0_2 : Nat) (ac0 : Addr) (w : World) (Q : Ending → World → Prop) (h : wp xa0_0 xa0_1 Aa0_2 na0_2 ca0_2 ac0 w Q) : Calls Tryd.prog 44 #[.agg #[.int .i64 xa0_0, .int .i64 xa0_1, .slice Aa0_2 na0_2 ca0_2], .pointer (some ac0)] w Q := by
  rw [wp_eq] at h
  exact calls_of_codeW (c := body) (rs := [.tmp 3]) Tryd.func44 (by kernel_rfl) (by kernel_rfl) (by kernel_rfl) (by kernel_rfl) (by kernel_rfl) (tab_snd (by
    intro x hx
    simp only [tb, List.not_mem_nil] at hx
    )) (by kernel_rfl) h
end f_wal_Log_Records_1
namespace f_wal_Log_lsn
/-! (*skein/wal.Log).lsn: function 47 -/
noncomputable def body : Code := (Tryd.f47.body).getD .skip
def wp (aa0 : Addr) (xa1 : Int) (w : World) (Q : Ending → World → Prop) : Prop :=
  ldI w (aa0.add 3) .i64 fun x1 =>
  Q (.returned (.int .i64 (IntKind.i64.wrap ((IntKind.i64.wrap (x1 * (16777216 : Int))) + xa1)))) w
def D : Nat → Option DH := dtab []
def tb : List (List Nat × Spec) := []
theorem wp_eq (aa0 : Addr) (xa1 : Int) (w : World) (Q : Ending → World → Prop) :
    wp aa0 xa1 w Q = codeW Tryd.prog hT 12 D (tab tb) [] body (topQ Tryd.prog hT 12 [.tmp 4] Q) (argsF [.pointer (some aa0), .int .i64 xa1]) w := by kernel_rfl
theorem ok (aa0 : Addr) (xa1 : Int) (w : World) (Q : Ending → World → Prop) (h : wp aa0 xa1 w Q) : Calls Tryd.prog 47 #[.pointer (some aa0), .int .i64 xa1] w Q := by
  rw [wp_eq] at h
  exact calls_of_codeW (c := body) (rs := [.tmp 4]) Tryd.func47 (by kernel_rfl) (by kernel_rfl) (by kernel_rfl) (by kernel_rfl) (by kernel_rfl) (tab_snd (by
    intro x hx
    simp only [tb, List.not_mem_nil] at hx
    )) (by kernel_rfl) h
end f_wal_Log_lsn
namespace f_api_Record_Back
/-! slices.Backward[[]skein/api.Record,skein/api.Record]: function 51 -/
noncomputable def body : Code := (Tryd.f51.body).getD .skip
def wp (Aa0 : Option Addr) (na0 : Nat) (ca0 : Nat) (w : World) (Q : Ending → World → Prop) : Prop :=
  alW w (.cells #[.slice Aa0 na0 ca0] 28) fun B1 w2 =>
  Q (.returned (.func (.func 71) #[] #[.pointer (some (⟨B1, 0, Option.none⟩ : Addr))])) w2
def D : Nat → Option DH := dtab []
def tb : List (List Nat × Spec) := []
theorem wp_eq (Aa0 : Option Addr) (na0 : Nat) (ca0 : Nat) (w : World) (Q : Ending → World → Prop) :
    wp Aa0 na0 ca0 w Q = codeW Tryd.prog hT 4 D (tab tb) [] body (topQ Tryd.prog hT 4 [.tmp 2] Q) (argsF [.slice Aa0 na0 ca0]) w := by kernel_rfl
theorem ok (Aa0 : Option Addr) (na0 : Nat) (ca0 : Nat) (w : World) (Q : Ending → World → Prop) (h : wp Aa0 na0 ca0 w Q) : Calls Tryd.prog 51 #[.slice Aa0 na0 ca0] w Q := by
  rw [wp_eq] at h
  exact calls_of_codeW (c := body) (rs := [.tmp 2]) Tryd.func51 (by kernel_rfl) (by kernel_rfl) (by kernel_rfl) (by kernel_rfl) (by kernel_rfl) (tab_snd (by
    intro x hx
    simp only [tb, List.not_mem_nil] at hx
    )) (by kernel_rfl) h
end f_api_Record_Back
namespace f_api_Record_Clone
/-! slices.Clone[[]skein/api.Record,skein/api.Record]: function 68 -/
noncomputable def body : Code := (Tryd.f68.body).getD .skip
def wp (Aa0 : Option Addr) (na0 : Nat) (ca0 : Nat) (w : World) (Q : Ending → World → Prop) : Prop :=
  sel Aa0.isNone (
  Q (.returned (.slice none 0 0)) w) (
  alW w (.cells #[] 39) fun B1 w2 =>
  Runs Tryd.prog (Builtin.append_ #[28, 28] 28 #[.slice (some (⟨B1, 0, Option.none⟩ : Addr)) 0 0, .slice Aa0 na0 ca0]) w2 fun v4 w3 => ∃ (A5 : Option Addr) (n5 : Nat) (c5 : Nat), v4 = (.slice A5 n5 c5) ∧ (
  Q (.returned (.slice A5 n5 c5)) w3))
def D : Nat → Option DH := dtab []
def tb : List (List Nat × Spec) := []
theorem wp_eq (Aa0 : Option Addr) (na0 : Nat) (ca0 : Nat) (w : World) (Q : Ending → World → Prop) :
    wp Aa0 na0 ca0 w Q = codeW Tryd.prog hT 8 D (tab tb) [] body (topQ Tryd.prog hT 8 [.tmp 2] Q) (argsF [.slice Aa0 na0 ca0]) w := by kernel_rfl
theorem ok (Aa0 : Option Addr) (na0 : Nat) (ca0 : Nat) (w : World) (Q : Ending → World → Prop) (h : wp Aa0 na0 ca0 w Q) : Calls Tryd.prog 68 #[.slice Aa0 na0 ca0] w Q := by
  rw [wp_eq] at h
  exact calls_of_codeW (c := body) (rs := [.tmp 2]) Tryd.func68 (by kernel_rfl) (by kernel_rfl) (by kernel_rfl) (by kernel_rfl) (by kernel_rfl) (tab_snd (by
    intro x hx
    simp only [tb, List.not_mem_nil] at hx
    )) (by kernel_rfl) h
end f_api_Record_Clone
namespace f_slices_Backward_byte_byte_Back
/-! slices.Backward[[]byte,byte]: function 82 -/
noncomputable def body : Code := (Tryd.f82.body).getD .skip
def wp (Aa0 : Option Addr) (na0 : Nat) (ca0 : Nat) (w : World) (Q : Ending → World → Prop) : Prop :=
  alW w (.cells #[.slice Aa0 na0 ca0] 29) fun B1 w2 =>
  Q (.returned (.func (.func 93) #[] #[.pointer (some (⟨B1, 0, Option.none⟩ : Addr))])) w2
def D : Nat → Option DH := dtab []
def tb : List (List Nat × Spec) := []
theorem wp_eq (Aa0 : Option Addr) (na0 : Nat) (ca0 : Nat) (w : World) (Q : Ending → World → Prop) :
    wp Aa0 na0 ca0 w Q = codeW Tryd.prog hT 4 D (tab tb) [] body (topQ Tryd.prog hT 4 [.tmp 2] Q) (argsF [.slice Aa0 na0 ca0]) w := by kernel_rfl
theorem ok (Aa0 : Option Addr) (na0 : Nat) (ca0 : Nat) (w : World) (Q : Ending → World → Prop) (h : wp Aa0 na0 ca0 w Q) : Calls Tryd.prog 82 #[.slice Aa0 na0 ca0] w Q := by
  rw [wp_eq] at h
  exact calls_of_codeW (c := body) (rs := [.tmp 2]) Tryd.func82 (by kernel_rfl) (by kernel_rfl) (by kernel_rfl) (by kernel_rfl) (by kernel_rfl) (tab_snd (by
    intro x hx
    simp only [tb, List.not_mem_nil] at hx
    )) (by kernel_rfl) h
end f_slices_Backward_byte_byte_Back
namespace f_bytes_Trim
/-! bytes.Trim: function 83 -/
noncomputable def body : Code := (Tryd.f83.body).getD .skip
def wp (Aa0 : Option Addr) (na0 : Nat) (ca0 : Nat) (sa1 : ByteArray) (w : World) (Q : Ending → World → Prop) : Prop :=
  sel ((na0 : Int) == (0 : Int)) (
  Q (.returned (.slice none 0 0)) w) (
  sel (sa1.toList == (⟨#[]⟩ : ByteArray).toList) (
  Q (.returned (.slice Aa0 na0 ca0)) w) (
  sel ((sa1.size : Int) == (1 : Int)) (
  req (decide (0 ≤ (0 : Int) ∧ (0 : Int) < (sa1.size : Int))) <|
  sel (decide (((sa1.get! (0 : Int).toNat).toNat : Int) < (128 : Int))) (
  drW w fun w1 =>
  req (decide (0 ≤ (0 : Int) ∧ (0 : Int) < (sa1.size : Int))) <|
  req (decide (0 ≤ (0 : Int) ∧ (0 : Int) < (sa1.size : Int))) <|
  Calls Tryd.prog 95 #[.slice Aa0 na0 ca0, .int .u8 ((sa1.get! (0 : Int).toNat).toNat : Int)] w1 fun e3 w4 => ∃ (A5 : Option Addr) (n5 : Nat) (c5 : Nat), e3 = .returned (.slice A5 n5 c5) ∧ (
  Calls Tryd.prog 94 #[.slice A5 n5 c5, .int .u8 ((sa1.get! (0 : Int).toNat).toNat : Int)] w4 fun e6 w7 => ∃ (A8 : Option Addr) (n8 : Nat) (c8 : Nat), e6 = .returned (.slice A8 n8 c8) ∧ (
  Q (.returned (.slice A8 n8 c8)) w7))) (
  Calls Tryd.prog 96 #[.string sa1] w fun e9 w10 => ∃ (cs11_0 : Array Value) (b11_1 : Bool), e9 = .returned (.tuple #[.agg cs11_0, .bool b11_1]) ∧ (
  alW w10 (.cells (zeroCs Tryd.prog 149) 149) fun B12 w13 =>
  Runs Tryd.prog (Instr.storeAt 149 (.pointer (some (⟨B12, 0, Option.none⟩ : Addr))) (.agg cs11_0)) w13 fun _ w14 =>
  sel b11_1 (
  Calls Tryd.prog 98 #[.slice Aa0 na0 ca0, .pointer (some (⟨B12, 0, Option.none⟩ : Addr))] w14 fun e15 w16 => ∃ (A17 : Option Addr) (n17 : Nat) (c17 : Nat), e15 = .returned (.slice A17 n17 c17) ∧ (
  Calls Tryd.prog 97 #[.slice A17 n17 c17, .pointer (some (⟨B12, 0, Option.none⟩ : Addr))] w16 fun e18 w19 => ∃ (A20 : Option Addr) (n20 : Nat) (c20 : Nat), e18 = .returned (.slice A20 n20 c20) ∧ (
  Q (.returned (.slice A20 n20 c20)) w19))) (
  Calls Tryd.prog 100 #[.slice Aa0 na0 ca0, .string sa1] w14 fun e21 w22 => ∃ (A23 : Option Addr) (n23 : Nat) (c23 : Nat), e21 = .returned (.slice A23 n23 c23) ∧ (
  Calls Tryd.prog 99 #[.slice A23 n23 c23, .string sa1] w22 fun e24 w25 => ∃ (A26 : Option Addr) (n26 : Nat) (c26 : Nat), e24 = .returned (.slice A26 n26 c26) ∧ (
  Q (.returned (.slice A26 n26 c26)) w25)))))) (
  Calls Tryd.prog 96 #[.string sa1] w fun e27 w28 => ∃ (cs29_0 : Array Value) (b29_1 : Bool), e27 = .returned (.tuple #[.agg cs29_0, .bool b29_1]) ∧ (
  alW w28 (.cells (zeroCs Tryd.prog 149) 149) fun B30 w31 =>
  Runs Tryd.prog (Instr.storeAt 149 (.pointer (some (⟨B30, 0, Option.none⟩ : Addr))) (.agg cs29_0)) w31 fun _ w32 =>
  sel b29_1 (
  Calls Tryd.prog 98 #[.slice Aa0 na0 ca0, .pointer (some (⟨B30, 0, Option.none⟩ : Addr))] w32 fun e33 w34 => ∃ (A35 : Option Addr) (n35 : Nat) (c35 : Nat), e33 = .returned (.slice A35 n35 c35) ∧ (
  Calls Tryd.prog 97 #[.slice A35 n35 c35, .pointer (some (⟨B30, 0, Option.none⟩ : Addr))] w34 fun e36 w37 => ∃ (A38 : Option Addr) (n38 : Nat) (c38 : Nat), e36 = .returned (.slice A38 n38 c38) ∧ (
  Q (.returned (.slice A38 n38 c38)) w37))) (
  Calls Tryd.prog 100 #[.slice Aa0 na0 ca0, .string sa1] w32 fun e39 w40 => ∃ (A41 : Option Addr) (n41 : Nat) (c41 : Nat), e39 = .returned (.slice A41 n41 c41) ∧ (
  Calls Tryd.prog 99 #[.slice A41 n41 c41, .string sa1] w40 fun e42 w43 => ∃ (A44 : Option Addr) (n44 : Nat) (c44 : Nat), e42 = .returned (.slice A44 n44 c44) ∧ (
  Q (.returned (.slice A44 n44 c44)) w43)))))))
def D : Nat → Option DH := dtab [(6, .simple [] [.fst 0, .fst 1, .fst 2, .fst 4, .fst 5, .eff 3, .eff 6, .fst 7])]
def tb : List (List Nat × Spec) := []
theorem wp_eq (Aa0 : Option Addr) (na0 : Nat) (ca0 : Nat) (sa1 : ByteArray) (w : World) (Q : Ending → World → Prop) :
    wp Aa0 na0 ca0 sa1 w Q = codeW Tryd.prog hT 42 D (tab tb) [] body (topQ Tryd.prog hT 42 [.tmp 4] Q) (argsF [.slice Aa0 na0 ca0, .string sa1]) w := by kernel_rfl
theorem ok (Aa0 : Option Addr) (na0 : Nat) (ca0 : Nat) (sa1 : ByteArray) (w : World) (Q : Ending → World → Prop) (h : wp Aa0 na0 ca0 sa1 w Q) : Calls Tryd.prog 83 #[.slice Aa0 na0 ca0, .string sa1] w Q := by
  rw [wp_eq] at h
  exact calls_of_codeW (c := body) (rs := [.tmp 4]) Tryd.func83 (by kernel_rfl) (by kernel_rfl) (by kernel_rfl) (by kernel_rfl) (by kernel_rfl) (tab_snd (by
    intro x hx
    simp only [tb, List.not_mem_nil] at hx
    )) (by kernel_rfl) h
end f_bytes_Trim
namespace f_bytes_trimLeftByte
/-! bytes.trimLeftByte: function 94 -/
noncomputable def body : Code := (Tryd.f94.body).getD .skip
def l0 : Nat → Option Addr → Nat → Nat → Int → World → ((Option Addr) → Nat → Nat → World → Prop) → Prop
  | 0, _, _, _, _, _, _ => False
  | k + 1, At0, nt0, ct0, xt1, w, K0 =>
    sel (decide ((nt0 : Int) > (0 : Int))) (
    optB At0 fun a1 =>
    req (decide (0 ≤ (0 : Int) ∧ (0 : Int) < (nt0 : Int))) <|
    ldI w (a1.add ((0 : Int).toNat * 1)) .u8 fun x2 =>
    sel (x2 == xt1) (
    req (decide (0 ≤ (1 : Int) ∧ (1 : Int) ≤ (nt0 : Int))) <|
    l0 k (slA At0 1 ct0 1) (nt0 - 1) (ct0 - 1) xt1 w K0) (
    K0 At0 nt0 ct0 w)) (
    K0 At0 nt0 ct0 w)
def wp (Aa0 : Option Addr) (na0 : Nat) (ca0 : Nat) (xa1 : Int) (w : World) (Q : Ending → World → Prop) : Prop :=
  ∃ k5 : Nat, l0 k5 Aa0 na0 ca0 xa1 w (fun (A3 : Option Addr) (n3 : Nat) (c3 : Nat) (w4 : World) => ∀ _ : Fr,
  sel ((n3 : Int) == (0 : Int)) (
  Q (.returned (.slice none 0 0)) w4) (
  Q (.returned (.slice A3 n3 c3)) w4))
def D : Nat → Option DH := dtab []
def l0LO : LO := ⟨[], [], [(0, [0])], []⟩
def l0Tk (k : Nat) : Spec := fun Q σ w =>
  gSlice (σ 0) fun At0 nt0 ct0 =>
  gInt .u8 (σ 1) fun xt1 =>
  l0 k At0 nt0 ct0 xt1 w (fun (Aq0 : Option Addr) (nq0 : Nat) (cq0 : Nat) (w : World) => ∀ d : Fr, Q (.exit 0) (ov d [(0, .slice Aq0 nq0 cq0)]) w)
def l0T : Spec := fun Q σ w => ∃ k, l0Tk k Q σ w
def l0tb : List (List Nat × Spec) := []
noncomputable def l0b : Code := (subC [0, 0, 0, 1] body).getD .skip
theorem l0_eq (k : Nat) (At0 : Option Addr) (nt0 : Nat) (ct0 : Nat) (xt1 : Int) (Q : PQ) (σ : Fr) (w : World) :
    l0 (k + 1) At0 nt0 ct0 xt1 w (fun (Aq0 : Option Addr) (nq0 : Nat) (cq0 : Nat) (w : World) => ∀ d : Fr, Q (.exit 0) (ov d [(0, .slice Aq0 nq0 cq0)]) w) = codeW Tryd.prog hT 21 D (tab l0tb) [0, 0, 0, 1] l0b (thenQ (l0Tk k Q) (widen l0LO Q)) (ov σ [(0, .slice At0 nt0 ct0), (1, .int .u8 xt1)]) w := by kernel_rfl
theorem l0_snd : ∀ c, subC [0, 0, 1] body = some c → Snd Tryd.prog 21 c l0T := by
  refine loop_of (hT := hT) (D := D) (l := l0tb) (b := l0b) (lo := l0LO) (by kernel_rfl) (by
    intro x hx
    simp only [l0tb, List.not_mem_nil] at hx
    ) (by kernel_rfl) (by kernel_rfl) ?_ ?_
  · intro Q σ w h
    unfold l0Tk at h
    obtain ⟨At0, nt0, ct0, h0, hn⟩ := gSlice_elim h
    clear h
    have h := hn
    clear hn
    obtain ⟨xt1, h1, hn⟩ := gInt_elim h
    clear h
    have h := hn
    clear hn
    exact h
  · intro k Q σ w h
    unfold l0Tk at h
    obtain ⟨At0, nt0, ct0, h0, hn⟩ := gSlice_elim h
    clear h
    have h := hn
    clear hn
    obtain ⟨xt1, h1, hn⟩ := gInt_elim h
    clear h
    have h := hn
    clear hn
    rw [l0_eq (σ := σ)] at h
    have e : (ov σ [(0, .slice At0 nt0 ct0), (1, .int .u8 xt1)]) = σ := ov_self (by simp [h0, h1])
    rw [e] at h
    exact h
def tb : List (List Nat × Spec) := [([0, 0, 1], l0T)]
theorem wp_eq (Aa0 : Option Addr) (na0 : Nat) (ca0 : Nat) (xa1 : Int) (w : World) (Q : Ending → World → Prop) :
    wp Aa0 na0 ca0 xa1 w Q = codeW Tryd.prog hT 21 D (tab tb) [] body (topQ Tryd.prog hT 21 [.tmp 4] Q) (argsF [.slice Aa0 na0 ca0, .int .u8 xa1]) w := by kernel_rfl
theorem ok (Aa0 : Option Addr) (na0 : Nat) (ca0 : Nat) (xa1 : Int) (w : World) (Q : Ending → World → Prop) (h : wp Aa0 na0 ca0 xa1 w Q) : Calls Tryd.prog 94 #[.slice Aa0 na0 ca0, .int .u8 xa1] w Q := by
  rw [wp_eq] at h
  exact calls_of_codeW (c := body) (rs := [.tmp 4]) Tryd.func94 (by kernel_rfl) (by kernel_rfl) (by kernel_rfl) (by kernel_rfl) (by kernel_rfl) (tab_snd (by
    intro x hx
    simp only [tb, List.mem_cons, List.not_mem_nil, or_false] at hx
    subst hx
    exact l0_snd)) (by kernel_rfl) h
end f_bytes_trimLeftByte
namespace f_bytes_trimRightByte
/-! bytes.trimRightByte: function 95 -/
noncomputable def body : Code := (Tryd.f95.body).getD .skip
def l0 : Nat → Option Addr → Nat → Nat → Int → World → ((Option Addr) → Nat → Nat → World → Prop) → Prop
  | 0, _, _, _, _, _, _ => False
  | k + 1, At0, nt0, ct0, xt1, w, K0 =>
    sel (decide ((nt0 : Int) > (0 : Int))) (
    optB At0 fun a1 =>
    req (decide (0 ≤ (IntKind.i64.wrap ((nt0 : Int) - (1 : Int))) ∧ (IntKind.i64.wrap ((nt0 : Int) - (1 : Int))) < (nt0 : Int))) <|
    ldI w (a1.add ((IntKind.i64.wrap ((nt0 : Int) - (1 : Int))).toNat * 1)) .u8 fun x2 =>
    sel (x2 == xt1) (
    req (decide (0 ≤ (IntKind.i64.wrap ((nt0 : Int) - (1 : Int))) ∧ (IntKind.i64.wrap ((nt0 : Int) - (1 : Int))) ≤ (ct0 : Int))) <|
    l0 k (slA At0 0 ct0 1) ((IntKind.i64.wrap ((nt0 : Int) - (1 : Int))).toNat - 0) (ct0 - 0) xt1 w K0) (
    K0 At0 nt0 ct0 w)) (
    K0 At0 nt0 ct0 w)
def wp (Aa0 : Option Addr) (na0 : Nat) (ca0 : Nat) (xa1 : Int) (w : World) (Q : Ending → World → Prop) : Prop :=
  ∃ k5 : Nat, l0 k5 Aa0 na0 ca0 xa1 w (fun (A3 : Option Addr) (n3 : Nat) (c3 : Nat) (w4 : World) => ∀ _ : Fr,
  Q (.returned (.slice A3 n3 c3)) w4)
def D : Nat → Option DH := dtab []
def l0LO : LO := ⟨[], [], [(0, [0])], []⟩
def l0Tk (k : Nat) : Spec := fun Q σ w =>
  gSlice (σ 0) fun At0 nt0 ct0 =>
  gInt .u8 (σ 1) fun xt1 =>
  l0 k At0 nt0 ct0 xt1 w (fun (Aq0 : Option Addr) (nq0 : Nat) (cq0 : Nat) (w : World) => ∀ d : Fr, Q (.exit 0) (ov d [(0, .slice Aq0 nq0 cq0)]) w)
def l0T : Spec := fun Q σ w => ∃ k, l0Tk k Q σ w
def l0tb : List (List Nat × Spec) := []
noncomputable def l0b : Code := (subC [0, 0, 0, 1] body).getD .skip
theorem l0_eq (k : Nat) (At0 : Option Addr) (nt0 : Nat) (ct0 : Nat) (xt1 : Int) (Q : PQ) (σ : Fr) (w : World) :
    l0 (k + 1) At0 nt0 ct0 xt1 w (fun (Aq0 : Option Addr) (nq0 : Nat) (cq0 : Nat) (w : World) => ∀ d : Fr, Q (.exit 0) (ov d [(0, .slice Aq0 nq0 cq0)]) w) = codeW Tryd.prog hT 24 D (tab l0tb) [0, 0, 0, 1] l0b (thenQ (l0Tk k Q) (widen l0LO Q)) (ov σ [(0, .slice At0 nt0 ct0), (1, .int .u8 xt1)]) w := by kernel_rfl
theorem l0_snd : ∀ c, subC [0, 0, 1] body = some c → Snd Tryd.prog 24 c l0T := by
  refine loop_of (hT := hT) (D := D) (l := l0tb) (b := l0b) (lo := l0LO) (by kernel_rfl) (by
    intro x hx
    simp only [l0tb, List.not_mem_nil] at hx
    ) (by kernel_rfl) (by kernel_rfl) ?_ ?_
  · intro Q σ w h
    unfold l0Tk at h
    obtain ⟨At0, nt0, ct0, h0, hn⟩ := gSlice_elim h
    clear h
    have h := hn
    clear hn
    obtain ⟨xt1, h1, hn⟩ := gInt_elim h
    clear h
    have h := hn
    clear hn
    exact h
  · intro k Q σ w h
    unfold l0Tk at h
    obtain ⟨At0, nt0, ct0, h0, hn⟩ := gSlice_elim h
    clear h
    have h := hn
    clear hn
    obtain ⟨xt1, h1, hn⟩ := gInt_elim h
    clear h
    have h := hn
    clear hn
    rw [l0_eq (σ := σ)] at h
    have e : (ov σ [(0, .slice At0 nt0 ct0), (1, .int .u8 xt1)]) = σ := ov_self (by simp [h0, h1])
    rw [e] at h
    exact h
def tb : List (List Nat × Spec) := [([0, 0, 1], l0T)]
theorem wp_eq (Aa0 : Option Addr) (na0 : Nat) (ca0 : Nat) (xa1 : Int) (w : World) (Q : Ending → World → Prop) :
    wp Aa0 na0 ca0 xa1 w Q = codeW Tryd.prog hT 24 D (tab tb) [] body (topQ Tryd.prog hT 24 [.tmp 4] Q) (argsF [.slice Aa0 na0 ca0, .int .u8 xa1]) w := by kernel_rfl
theorem ok (Aa0 : Option Addr) (na0 : Nat) (ca0 : Nat) (xa1 : Int) (w : World) (Q : Ending → World → Prop) (h : wp Aa0 na0 ca0 xa1 w Q) : Calls Tryd.prog 95 #[.slice Aa0 na0 ca0, .int .u8 xa1] w Q := by
  rw [wp_eq] at h
  exact calls_of_codeW (c := body) (rs := [.tmp 4]) Tryd.func95 (by kernel_rfl) (by kernel_rfl) (by kernel_rfl) (by kernel_rfl) (by kernel_rfl) (tab_snd (by
    intro x hx
    simp only [tb, List.mem_cons, List.not_mem_nil, or_false] at hx
    subst hx
    exact l0_snd)) (by kernel_rfl) h
end f_bytes_trimRightByte
end Go.Proofs.YtpokaafedpnbdaaDoor.Rd
