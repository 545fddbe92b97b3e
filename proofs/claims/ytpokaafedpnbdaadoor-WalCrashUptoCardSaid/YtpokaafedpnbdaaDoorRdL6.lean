/- The printed readings of some functions: each function's code reckoned by the kernel to its predicate transformer. -/
import Derived.Test.YtpokaafedpnbdaaDoorHint
namespace Go.Proofs.YtpokaafedpnbdaaDoor.Rd
open Go.Dn
set_option maxRecDepth 100000
set_option linter.unusedVariables false
namespace f_law09_WalBack
/-! skein/skeinlaw09.WalBack: function 6 -/
noncomputable def body : Code := (Tryd.f6.body).getD .skip
def l0 : Nat → Option Addr → Option Addr → Nat → Nat → Option Addr → Nat → Nat → Int → Int → World → ((Option Addr) → Nat → Nat → World → Prop) → (Bool → World → Prop) → Prop
  | 0, _, _, _, _, _, _, _, _, _, _, _, _ => False
  | k + 1, pt10, At11, nt11, ct11, At48, nt48, ct48, xt49, xt50, w, K0, Kr =>
    sel (decide (xt50 < xt49)) (
    optB At48 fun a9 =>
    req (decide (0 ≤ xt50 ∧ xt50 < (nt48 : Int))) <|
    ldS w (a9.add (xt50.toNat * 1)) fun A10 n10 c10 =>
    Calls Tryd.prog 21 #[.pointer pt10] w fun e11 w12 => ∃ (x13 : Int), e11 = .returned (.int .i64 x13) ∧ (
    Calls Tryd.prog 23 #[.pointer pt10] w12 fun e14 w15 => ∃ (x16 : Int), e14 = .returned (.int .i64 x16) ∧ (
    Calls Tryd.prog 11 #[.slice A10 n10 c10] w15 fun e17 w18 => ∃ (A19 : Option Addr) (n19 : Nat) (c19 : Nat), e17 = .returned (.slice A19 n19 c19) ∧ (
    Calls Tryd.prog 10 #[.pointer pt10, .int .i64 (IntKind.i64.wrap ((1 : Int) + (xt50.tmod (255 : Int)))), .slice A19 n19 c19] w18 fun e20 w21 => ∃ (x22_0 : Int) (x22_1 : Int), e20 = .returned (.tuple #[.int .i64 x22_0, .int .i64 x22_1]) ∧ (
    sel (x22_1 == (0 : Int)) (
    sel (x22_0 != x16) (
    Kr false w21) (
    Calls Tryd.prog 21 #[.pointer pt10] w21 fun e23 w24 => ∃ (x25 : Int), e23 = .returned (.int .i64 x25) ∧ (
    sel (decide (x25 ≥ x13)) (
    Kr false w24) (
    Calls Tryd.prog 23 #[.pointer pt10] w24 fun e26 w27 => ∃ (x28 : Int), e26 = .returned (.int .i64 x28) ∧ (
    Calls Tryd.prog 21 #[.pointer pt10] w27 fun e29 w30 => ∃ (x31 : Int), e29 = .returned (.int .i64 x31) ∧ (
    sel ((IntKind.i64.wrap (x28 - x16)) != (IntKind.i64.wrap (x13 - x31))) (
    Kr false w30) (
    alW w30 (.cells #[.int .i64 x22_0, .int .i64 (IntKind.i64.wrap ((1 : Int) + (xt50.tmod (255 : Int)))), .slice A10 n10 c10] 39) fun B32 w33 =>
    Runs Tryd.prog (Builtin.append_ #[28, 28] 28 #[.slice At11 nt11 ct11, .slice (some (⟨B32, 0, Option.none⟩ : Addr)) 1 1]) w33 fun v35 w34 => ∃ (A36 : Option Addr) (n36 : Nat) (c36 : Nat), v35 = (.slice A36 n36 c36) ∧ (
    l0 k pt10 A36 n36 c36 At48 nt48 ct48 xt49 (IntKind.i64.wrap (xt50 + (1 : Int))) w34 K0 Kr)))))))) (
    sel (x22_0 != (0 : Int)) (
    Kr false w21) (
    Calls Tryd.prog 21 #[.pointer pt10] w21 fun e37 w38 => ∃ (x39 : Int), e37 = .returned (.int .i64 x39) ∧ (
    sel (x39 != x13) (
    Kr false w38) (
    sel (x22_1 == (90 : Int)) (
    sel (decide ((IntKind.i64.wrap ((n10 : Int) + (4 : Int))) < x13)) (
    Kr false w38) (
    sel (x22_1 != (90 : Int)) (
    sel (decide ((n10 : Int) ≤ (1200 : Int))) (
    Kr false w38) (
    l0 k pt10 At11 nt11 ct11 At48 nt48 ct48 xt49 (IntKind.i64.wrap (xt50 + (1 : Int))) w38 K0 Kr)) (
    l0 k pt10 At11 nt11 ct11 At48 nt48 ct48 xt49 (IntKind.i64.wrap (xt50 + (1 : Int))) w38 K0 Kr))) (
    sel (x22_1 != (90 : Int)) (
    sel (decide ((n10 : Int) ≤ (1200 : Int))) (
    Kr false w38) (
    l0 k pt10 At11 nt11 ct11 At48 nt48 ct48 xt49 (IntKind.i64.wrap (xt50 + (1 : Int))) w38 K0 Kr)) (
    l0 k pt10 At11 nt11 ct11 At48 nt48 ct48 xt49 (IntKind.i64.wrap (xt50 + (1 : Int))) w38 K0 Kr))))))))))) (
    K0 At11 nt11 ct11 w)
def l1 : Nat → Option Addr → Option Addr → Nat → Nat → Int → Int → World → (Int → World → Prop) → (Bool → World → Prop) → Prop
  | 0, _, _, _, _, _, _, _, _, _ => False
  | k + 1, pt10, At11, nt11, ct11, xt19, xt20, w, K2, Kr =>
    sel (decide (xt20 ≥ (0 : Int))) (
    Calls Tryd.prog 26 #[.pointer pt10, .int .i64 xt19] w fun e48 w49 => ∃ (x50_0_0 : Int) (x50_0_1 : Int) (A50_0_2 : Option Addr) (n50_0_2 : Nat) (c50_0_2 : Nat) (b50_1 : Bool), e48 = .returned (.tuple #[.agg #[.int .i64 x50_0_0, .int .i64 x50_0_1, .slice A50_0_2 n50_0_2 c50_0_2], .bool b50_1]) ∧ (
    alW w49 (.cells #[.int .i64 (0 : Int), .int .i64 (0 : Int), .slice none 0 0] 39) fun B51 w52 =>
    stW w52 (⟨B51, 0, Option.none⟩ : Addr) (.int .i64 x50_0_0) fun w53 =>
    stW w53 ((⟨B51, 0, Option.none⟩ : Addr).add 1) (.int .i64 x50_0_1) fun w54 =>
    stW w54 ((⟨B51, 0, Option.none⟩ : Addr).add 2) (.slice A50_0_2 n50_0_2 c50_0_2) fun w55 =>
    drW w55 fun w56 =>
    ∃ S57 : World → Prop, S57 w56 ∧ (
    sel (!b50_1) (
    S57 w56 ∧ (
    Kr false w56)) (
    hdI S57 (⟨B51, 0, Option.none⟩ : Addr) .i64 fun x58 =>
    hdI S57 ((⟨B51, 0, Option.none⟩ : Addr).add 1) .i64 fun x59 =>
    hdS S57 ((⟨B51, 0, Option.none⟩ : Addr).add 2) fun A60 n60 c60 =>
    req (decide (0 ≤ (IntKind.i64.wrap (xt20 + (1 : Int))) ∧ (IntKind.i64.wrap (xt20 + (1 : Int))) ≤ (ct11 : Int))) <|
    req (decide (0 ≤ xt20 ∧ xt20 ≤ ((IntKind.i64.wrap (xt20 + (1 : Int))).toNat : Int))) <|
    alW w56 (.cells #[.int .i64 x58, .int .i64 x59, .slice A60 n60 c60] 39) fun B61 w62 =>
    S57 w62 ∧ (
    Calls Tryd.prog 25 #[.slice (some (⟨B61, 0, Option.none⟩ : Addr)) 1 1, .slice (slA At11 xt20.toNat ct11 3) ((IntKind.i64.wrap (xt20 + (1 : Int))).toNat - xt20.toNat) (ct11 - xt20.toNat)] w62 fun e63 w64 => ∃ (b65 : Bool), e63 = .returned (.bool b65) ∧ (
    sel (!b65) (
    Kr false w64) (
    ldI w64 (⟨B51, 0, Option.none⟩ : Addr) .i64 fun x66 =>
    l1 k pt10 At11 nt11 ct11 x66 (IntKind.i64.wrap (xt20 - (1 : Int))) w64 K2 Kr))))))) (
    K2 xt19 w)
def wp (xa0 : Int) (Aa1 : Option Addr) (na1 : Nat) (ca1 : Nat) (xa2 : Int) (ba3 : Bool) (w : World) (Q : Ending → World → Prop) : Prop :=
  Calls Tryd.prog 8 #[] w fun e1 w2 => ∃ (b3 : Bool), e1 = .returned (.bool b3) ∧ (
  sel (!b3) (
  Q (.returned (.bool false)) w2) (
  sel (decide (xa0 < (1 : Int))) (
  Q (.returned (.bool true)) w2) (
  sel (decide (xa0 > (9 : Int))) (
  Q (.returned (.bool true)) w2) (
  Calls Tryd.prog 9 #[.int .i64 xa0] w2 fun e4 w5 => ∃ (p6_0 : Option Addr) (p6_1 : Option Addr), e4 = .returned (.tuple #[.pointer p6_0, .pointer p6_1]) ∧ (
  sel p6_0.isNone (
  Q (.returned (.bool false)) w5) (
  sel p6_1.isNone (
  Q (.returned (.bool false)) w5) (
  alW w5 (.cells #[] 39) fun B7 w8 =>
  ∃ k140 : Nat, l0 k140 p6_1 (some (⟨B7, 0, Option.none⟩ : Addr)) 0 0 Aa1 na1 ca1 (na1 : Int) (0 : Int) w8 (fun (A40 : Option Addr) (n40 : Nat) (c40 : Nat) (w41 : World) => ∀ _ : Fr,
  Calls Tryd.prog 20 #[.pointer p6_1, .int .i64 xa2] w41 fun e42 w43 => ∃ (A44 : Option Addr) (n44 : Nat) (c44 : Nat), e42 = .returned (.slice A44 n44 c44) ∧ (
  Calls Tryd.prog 23 #[.pointer p6_1] w43 fun e45 w46 => ∃ (x47 : Int), e45 = .returned (.int .i64 x47) ∧ (
  ∃ k137 : Nat, l1 k137 p6_1 A40 n40 c40 x47 (IntKind.i64.wrap ((n40 : Int) - (1 : Int))) w46 (fun (x67 : Int) (w68 : World) => ∀ _ : Fr,
  Calls Tryd.prog 26 #[.pointer p6_1, .int .i64 x67] w68 fun e69 w70 => ∃ (x71_0_0 : Int) (x71_0_1 : Int) (A71_0_2 : Option Addr) (n71_0_2 : Nat) (c71_0_2 : Nat) (b71_1 : Bool), e69 = .returned (.tuple #[.agg #[.int .i64 x71_0_0, .int .i64 x71_0_1, .slice A71_0_2 n71_0_2 c71_0_2], .bool b71_1]) ∧ (
  alW w70 (.cells #[.int .i64 (0 : Int), .int .i64 (0 : Int), .slice none 0 0] 39) fun B72 w73 =>
  stW w73 (⟨B72, 0, Option.none⟩ : Addr) (.int .i64 x71_0_0) fun w74 =>
  stW w74 ((⟨B72, 0, Option.none⟩ : Addr).add 1) (.int .i64 x71_0_1) fun w75 =>
  stW w75 ((⟨B72, 0, Option.none⟩ : Addr).add 2) (.slice A71_0_2 n71_0_2 c71_0_2) fun w76 =>
  sel (decide ((n40 : Int) > (0 : Int))) (
  sel b71_1 (
  Q (.returned (.bool false)) w76) (
  Calls Tryd.prog 27 #[.slice A40 n40 c40, .int .i64 xa2] w76 fun e77 w78 => ∃ (A79 : Option Addr) (n79 : Nat) (c79 : Nat), e77 = .returned (.slice A79 n79 c79) ∧ (
  Calls Tryd.prog 25 #[.slice A44 n44 c44, .slice A79 n79 c79] w78 fun e80 w81 => ∃ (b82 : Bool), e80 = .returned (.bool b82) ∧ (
  sel (!b82) (
  Q (.returned (.bool false)) w81) (
  Calls Tryd.prog 20 #[.pointer p6_1, .int .i64 (0 : Int)] w81 fun e83 w84 => ∃ (A85 : Option Addr) (n85 : Nat) (c85 : Nat), e83 = .returned (.slice A85 n85 c85) ∧ (
  Calls Tryd.prog 25 #[.slice A85 n85 c85, .slice A40 n40 c40] w84 fun e86 w87 => ∃ (b88 : Bool), e86 = .returned (.bool b88) ∧ (
  sel (!b88) (
  Q (.returned (.bool false)) w87) (
  sel (!ba3) (
  Q (.returned (.bool true)) w87) (
  Calls Tryd.prog 12 #[.pointer p6_1] w87 fun e89 w90 => ∃ (x91 : Int), e89 = .returned (.int .i64 x91) ∧ (
  sel (x91 != (0 : Int)) (
  Q (.returned (.bool false)) w90) (
  Calls Tryd.prog 28 #[.pointer p6_1] w90 fun e92 w93 => ∃ (x94 : Int), e92 = .returned (.int .i64 x94) ∧ (
  Calls Tryd.prog 23 #[.pointer p6_1] w93 fun e95 w96 => ∃ (x97 : Int), e95 = .returned (.int .i64 x97) ∧ (
  sel (x94 != x97) (
  Q (.returned (.bool false)) w96) (
  Calls Tryd.prog 17 #[.pointer p6_0, .slice none 0 0] w96 fun e98 w99 => e98 = .returned (.tuple #[]) ∧ (
  Calls Tryd.prog 18 #[.pointer p6_0, .int .i64 (1 : Int), .int .i64 xa0] w99 fun e100 w101 => ∃ (p102_0 : Option Addr) (A102_1 : Option Addr) (n102_1 : Nat) (c102_1 : Nat) (x102_2 : Int), e100 = .returned (.tuple #[.pointer p102_0, .slice A102_1 n102_1 c102_1, .int .i64 x102_2]) ∧ (
  sel (x102_2 == (0 : Int)) (
  Calls Tryd.prog 25 #[.slice A102_1 n102_1 c102_1, .slice A40 n40 c40] w101 fun e103 w104 => ∃ (b105 : Bool), e103 = .returned (.bool b105) ∧ (
  Q (.returned (.bool b105)) w104)) (
  Q (.returned (.bool false)) w101))))))))))))))))) (
  Calls Tryd.prog 27 #[.slice A40 n40 c40, .int .i64 xa2] w76 fun e106 w107 => ∃ (A108 : Option Addr) (n108 : Nat) (c108 : Nat), e106 = .returned (.slice A108 n108 c108) ∧ (
  Calls Tryd.prog 25 #[.slice A44 n44 c44, .slice A108 n108 c108] w107 fun e109 w110 => ∃ (b111 : Bool), e109 = .returned (.bool b111) ∧ (
  sel (!b111) (
  Q (.returned (.bool false)) w110) (
  Calls Tryd.prog 20 #[.pointer p6_1, .int .i64 (0 : Int)] w110 fun e112 w113 => ∃ (A114 : Option Addr) (n114 : Nat) (c114 : Nat), e112 = .returned (.slice A114 n114 c114) ∧ (
  Calls Tryd.prog 25 #[.slice A114 n114 c114, .slice A40 n40 c40] w113 fun e115 w116 => ∃ (b117 : Bool), e115 = .returned (.bool b117) ∧ (
  sel (!b117) (
  Q (.returned (.bool false)) w116) (
  sel (!ba3) (
  Q (.returned (.bool true)) w116) (
  Calls Tryd.prog 12 #[.pointer p6_1] w116 fun e118 w119 => ∃ (x120 : Int), e118 = .returned (.int .i64 x120) ∧ (
  sel (x120 != (0 : Int)) (
  Q (.returned (.bool false)) w119) (
  Calls Tryd.prog 28 #[.pointer p6_1] w119 fun e121 w122 => ∃ (x123 : Int), e121 = .returned (.int .i64 x123) ∧ (
  Calls Tryd.prog 23 #[.pointer p6_1] w122 fun e124 w125 => ∃ (x126 : Int), e124 = .returned (.int .i64 x126) ∧ (
  sel (x123 != x126) (
  Q (.returned (.bool false)) w125) (
  Calls Tryd.prog 17 #[.pointer p6_0, .slice none 0 0] w125 fun e127 w128 => e127 = .returned (.tuple #[]) ∧ (
  Calls Tryd.prog 18 #[.pointer p6_0, .int .i64 (1 : Int), .int .i64 xa0] w128 fun e129 w130 => ∃ (p131_0 : Option Addr) (A131_1 : Option Addr) (n131_1 : Nat) (c131_1 : Nat) (x131_2 : Int), e129 = .returned (.tuple #[.pointer p131_0, .slice A131_1 n131_1 c131_1, .int .i64 x131_2]) ∧ (
  sel (x131_2 == (0 : Int)) (
  Calls Tryd.prog 25 #[.slice A131_1 n131_1 c131_1, .slice A40 n40 c40] w130 fun e132 w133 => ∃ (b134 : Bool), e132 = .returned (.bool b134) ∧ (
  Q (.returned (.bool b134)) w133)) (
  Q (.returned (.bool false)) w130)))))))))))))))))) (fun (b135 : Bool) (w136 : World) => ∀ _ : Fr,
  Q (.returned (.bool b135)) w136)))) (fun (b138 : Bool) (w139 : World) => ∀ _ : Fr,
  Q (.returned (.bool b138)) w139))))))))
def D : Nat → Option DH := dtab [(27, .held [.fst 0, .fst 1, .fst 2, .fst 3, .fst 5, .fst 6, .fst 7, .fst 8, .fst 9, .eff 4] [.eff 10, .fst 11, .fst 12])]
def l0LO : LO := ⟨[], [8], [(0, [0, 2, 3, 9, 10, 11])], []⟩
def l0Tk (k : Nat) : Spec := fun Q σ w =>
  gPtr (σ 10) fun pt10 =>
  gSlice (σ 11) fun At11 nt11 ct11 =>
  gSlice (σ 48) fun At48 nt48 ct48 =>
  gInt .i64 (σ 49) fun xt49 =>
  gInt .i64 (σ 50) fun xt50 =>
  l0 k pt10 At11 nt11 ct11 At48 nt48 ct48 xt49 xt50 w (fun (Aq11 : Option Addr) (nq11 : Nat) (cq11 : Nat) (w : World) => ∀ d : Fr, Q (.exit 0) (ov d [(0, σ 0), (2, σ 2), (3, σ 3), (9, σ 9), (10, .pointer pt10), (11, .slice Aq11 nq11 cq11)]) w) (fun (bq8 : Bool) (w : World) => ∀ d : Fr, Q .ret (ov d [(8, .bool bq8)]) w)
def l0T : Spec := fun Q σ w => ∃ k, l0Tk k Q σ w
def l0tb : List (List Nat × Spec) := []
noncomputable def l0b : Code := (subC [0, 0, 1, 0, 1, 1, 1, 1, 1, 1] body).getD .skip
theorem l0_eq (k : Nat) (pt10 : Option Addr) (At11 : Option Addr) (nt11 : Nat) (ct11 : Nat) (At48 : Option Addr) (nt48 : Nat) (ct48 : Nat) (xt49 : Int) (xt50 : Int) (Q : PQ) (σ : Fr) (w : World) :
    l0 (k + 1) pt10 At11 nt11 ct11 At48 nt48 ct48 xt49 xt50 w (fun (Aq11 : Option Addr) (nq11 : Nat) (cq11 : Nat) (w : World) => ∀ d : Fr, Q (.exit 0) (ov d [(0, σ 0), (2, σ 2), (3, σ 3), (9, σ 9), (10, .pointer pt10), (11, .slice Aq11 nq11 cq11)]) w) (fun (bq8 : Bool) (w : World) => ∀ d : Fr, Q .ret (ov d [(8, .bool bq8)]) w) = codeW Tryd.prog hT 217 D (tab l0tb) [0, 0, 1, 0, 1, 1, 1, 1, 1, 1] l0b (thenQ (l0Tk k Q) (widen l0LO Q)) (ov σ [(10, .pointer pt10), (11, .slice At11 nt11 ct11), (48, .slice At48 nt48 ct48), (49, .int .i64 xt49), (50, .int .i64 xt50)]) w := by kernel_rfl
theorem l0_snd : ∀ c, subC [0, 1, 0, 1, 1, 1, 1, 1, 1] body = some c → Snd Tryd.prog 217 c l0T := by
  refine loop_of (hT := hT) (D := D) (l := l0tb) (b := l0b) (lo := l0LO) (by kernel_rfl) (by
    intro x hx
    simp only [l0tb, List.not_mem_nil] at hx
    ) (by kernel_rfl) (by kernel_rfl) ?_ ?_
  · intro Q σ w h
    unfold l0Tk at h
    obtain ⟨pt10, h10, hn⟩ := gPtr_elim h
    clear h
    have h := hn
    clear hn
    obtain ⟨At11, nt11, ct11, h11, hn⟩ := gSlice_elim h
    clear h
    have h := hn
    clear hn
    obtain ⟨At48, nt48, ct48, h48, hn⟩ := gSlice_elim h
    clear h
    have h := hn
    clear hn
    obtain ⟨xt49, h49, hn⟩ := gInt_elim h
    clear h
    have h := hn
    clear hn
    obtain ⟨xt50, h50, hn⟩ := gInt_elim h
    clear h
    have h := hn
    clear hn
    exact h
  · intro k Q σ w h
    unfold l0Tk at h
    obtain ⟨pt10, h10, hn⟩ := gPtr_elim h
    clear h
    have h := hn
    clear hn
    obtain ⟨At11, nt11, ct11, h11, hn⟩ := gSlice_elim h
    clear h
    have h := hn
    clear hn
    obtain ⟨At48, nt48, ct48, h48, hn⟩ := gSlice_elim h
    clear h
    have h := hn
    clear hn
    obtain ⟨xt49, h49, hn⟩ := gInt_elim h
    clear h
    have h := hn
    clear hn
    obtain ⟨xt50, h50, hn⟩ := gInt_elim h
    clear h
    have h := hn
    clear hn
    rw [l0_eq (σ := σ)] at h
    have e : (ov σ [(10, .pointer pt10), (11, .slice At11 nt11 ct11), (48, .slice At48 nt48 ct48), (49, .int .i64 xt49), (50, .int .i64 xt50)]) = σ := ov_self (by simp [h10, h11, h48, h49, h50])
    rw [e] at h
    exact h
def l1LO : LO := ⟨[], [8], [(2, [0, 2, 3, 9, 10, 11, 18, 19])], []⟩
def l1Tk (k : Nat) : Spec := fun Q σ w =>
  gPtr (σ 10) fun pt10 =>
  gSlice (σ 11) fun At11 nt11 ct11 =>
  gInt .i64 (σ 19) fun xt19 =>
  gInt .i64 (σ 20) fun xt20 =>
  l1 k pt10 At11 nt11 ct11 xt19 xt20 w (fun (xq19 : Int) (w : World) => ∀ d : Fr, Q (.exit 2) (ov d [(0, σ 0), (2, σ 2), (3, σ 3), (9, σ 9), (10, .pointer pt10), (11, .slice At11 nt11 ct11), (18, σ 18), (19, .int .i64 xq19)]) w) (fun (bq8 : Bool) (w : World) => ∀ d : Fr, Q .ret (ov d [(8, .bool bq8)]) w)
def l1T : Spec := fun Q σ w => ∃ k, l1Tk k Q σ w
def l1tb : List (List Nat × Spec) := []
noncomputable def l1b : Code := (subC [0, 0, 1, 0, 1, 1, 1, 1, 1, 1, 1, 1, 1] body).getD .skip
theorem l1_eq (k : Nat) (pt10 : Option Addr) (At11 : Option Addr) (nt11 : Nat) (ct11 : Nat) (xt19 : Int) (xt20 : Int) (Q : PQ) (σ : Fr) (w : World) :
    l1 (k + 1) pt10 At11 nt11 ct11 xt19 xt20 w (fun (xq19 : Int) (w : World) => ∀ d : Fr, Q (.exit 2) (ov d [(0, σ 0), (2, σ 2), (3, σ 3), (9, σ 9), (10, .pointer pt10), (11, .slice At11 nt11 ct11), (18, σ 18), (19, .int .i64 xq19)]) w) (fun (bq8 : Bool) (w : World) => ∀ d : Fr, Q .ret (ov d [(8, .bool bq8)]) w) = codeW Tryd.prog hT 217 D (tab l1tb) [0, 0, 1, 0, 1, 1, 1, 1, 1, 1, 1, 1, 1] l1b (thenQ (l1Tk k Q) (widen l1LO Q)) (ov σ [(10, .pointer pt10), (11, .slice At11 nt11 ct11), (19, .int .i64 xt19), (20, .int .i64 xt20)]) w := by kernel_rfl
theorem l1_snd : ∀ c, subC [0, 1, 0, 1, 1, 1, 1, 1, 1, 1, 1, 1] body = some c → Snd Tryd.prog 217 c l1T := by
  refine loop_of (hT := hT) (D := D) (l := l1tb) (b := l1b) (lo := l1LO) (by kernel_rfl) (by
    intro x hx
    simp only [l1tb, List.not_mem_nil] at hx
    ) (by kernel_rfl) (by kernel_rfl) ?_ ?_
  · intro Q σ w h
    unfold l1Tk at h
    obtain ⟨pt10, h10, hn⟩ := gPtr_elim h
    clear h
    have h := hn
    clear hn
    obtain ⟨At11, nt11, ct11, h11, hn⟩ := gSlice_elim h
    clear h
    have h := hn
    clear hn
    obtain ⟨xt19, h19, hn⟩ := gInt_elim h
    clear h
    have h := hn
    clear hn
    obtain ⟨xt20, h20, hn⟩ := gInt_elim h
    clear h
    have h := hn
    clear hn
    exact h
  · intro k Q σ w h
    unfold l1Tk at h
    obtain ⟨pt10, h10, hn⟩ := gPtr_elim h
    clear h
    have h := hn
    clear hn
    obtain ⟨At11, nt11, ct11, h11, hn⟩ := gSlice_elim h
    clear h
    have h := hn
    clear hn
    obtain ⟨xt19, h19, hn⟩ := gInt_elim h
    clear h
    have h := hn
    clear hn
    obtain ⟨xt20, h20, hn⟩ := gInt_elim h
    clear h
    have h := hn
    clear hn
    rw [l1_eq (σ := σ)] at h
    have e : (ov σ [(10, .pointer pt10), (11, .slice At11 nt11 ct11), (19, .int .i64 xt19), (20, .int .i64 xt20)]) = σ := ov_self (by simp [h10, h11, h19, h20])
    rw [e] at h
    exact h
def tb : List (List Nat × Spec) := [([0, 1, 0, 1, 1, 1, 1, 1, 1], l0T), ([0, 1, 0, 1, 1, 1, 1, 1, 1, 1, 1, 1], l1T)]
theorem wp_eq (xa0 : Int) (Aa1 : Option Addr) (na1 : Nat) (ca1 : Nat) (xa2 : Int) (ba3 : Bool) (w : World) (Q : Ending → World → Prop) :
    wp xa0 Aa1 na1 ca1 xa2 ba3 w Q = codeW Tryd.prog hT 217 D (tab tb) [] body (topQ Tryd.prog hT 217 [.tmp 8] Q) (argsF [.int .i64 xa0, .slice Aa1 na1 ca1, .int .i64 xa2, .bool ba3]) w := by cases ba3 <;> kernel_rfl
theorem ok (xa0 : Int) (Aa1 : Option Addr) (na1 : Nat) (ca1 : Nat) (xa2 : Int) (ba3 : Bool) (w : World) (Q : Ending → World → Prop) (h : wp xa0 Aa1 na1 ca1 xa2 ba3 w Q) : Calls Tryd.prog 6 #[.int .i64 xa0, .slice Aa1 na1 ca1, .int .i64 xa2, .bool ba3] w Q := by
  rw [wp_eq] at h
  exact calls_of_codeW (c := body) (rs := [.tmp 8]) Tryd.func6 (by kernel_rfl) (by kernel_rfl) (by kernel_rfl) (by kernel_rfl) (by kernel_rfl) (tab_snd (by
    intro x hx
    simp only [tb, List.mem_cons, List.not_mem_nil, or_false] at hx
    rcases hx with rfl | rfl
    · exact l0_snd
    · exact l1_snd)) (by kernel_rfl) h
end f_law09_WalBack
end Go.Proofs.YtpokaafedpnbdaaDoor.Rd
