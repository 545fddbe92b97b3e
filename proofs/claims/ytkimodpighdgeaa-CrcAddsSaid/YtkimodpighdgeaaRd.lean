/- The printed readings of some functions: each function's code reckoned by the kernel to its predicate transformer. -/
import Derived.Test.YtkimodpighdgeaaHint
namespace Go.Proofs.Ytkimodpighdgeaa.Rd
open Go.Dn
set_option maxRecDepth 100000
set_option linter.unusedVariables false
namespace f_law02_CrcSums
/-! skein/skeinlaw02.CrcSums: function 3 -/
noncomputable def body : Code := (Try.f3.body).getD .skip
def j0 (At0 : Option Addr) (nt0 : Nat) (ct0 : Nat) (xt1 : Int) (w : World) (Kr : Bool → World → Prop) : Prop :=
  Calls Try.prog 13 #[.slice At0 nt0 ct0] w fun e4 w5 => ∃ (A6 : Option Addr) (n6 : Nat) (c6 : Nat), e4 = .returned (.slice A6 n6 c6) ∧ (
  Calls Try.prog 14 #[.slice At0 nt0 ct0] w5 fun e7 w8 => ∃ (x9 : Int), e7 = .returned (.int .u32 x9) ∧ (
  drW w8 fun w10 =>
  req (decide (0 ≤ (nt0 : Int) ∧ (nt0 : Int) ≤ (c6 : Int))) <|
  alW w10 (.cells #[.slice (slA A6 0 c6 1) ((nt0 : Int).toNat - 0) (c6 - 0)] 22) fun B12 w13 =>
  Calls Try.prog 15 #[.slice (some (⟨B12, 0, Option.none⟩ : Addr)) 1 1] w13 fun e14 w15 => ∃ (x16 : Int), e14 = .returned (.int .u32 x16) ∧ (
  sel (x16 == x9) (
  req (decide (0 ≤ xt1 ∧ xt1 ≤ (c6 : Int))) <|
  req (decide (0 ≤ (nt0 : Int) ∧ (nt0 : Int) ≤ (c6 : Int))) <|
  req (decide (0 ≤ xt1 ∧ xt1 ≤ ((nt0 : Int).toNat : Int))) <|
  alW w15 (.cells #[.slice (slA A6 0 c6 1) (xt1.toNat - 0) (c6 - 0), .slice none 0 0, .slice (slA A6 xt1.toNat c6 1) ((nt0 : Int).toNat - xt1.toNat) (c6 - xt1.toNat)] 22) fun B17 w18 =>
  Calls Try.prog 15 #[.slice (some (⟨B17, 0, Option.none⟩ : Addr)) 3 3] w18 fun e19 w20 => ∃ (x21 : Int), e19 = .returned (.int .u32 x21) ∧ (
  sel (x21 == x9) (
  Calls Try.prog 16 #[.slice A6 n6 c6, .slice At0 nt0 ct0] w20 fun e22 w23 => ∃ (b24 : Bool), e22 = .returned (.bool b24) ∧ (
  Kr b24 w23)) (
  Kr false w20))) (
  Kr false w15))))
def wp (Aa0 : Option Addr) (na0 : Nat) (ca0 : Nat) (xa1 : Int) (w : World) (Q : Ending → World → Prop) : Prop :=
  Calls Try.prog 12 #[] w fun e1 w2 => ∃ (b3 : Bool), e1 = .returned (.bool b3) ∧ (
  sel (!b3) (
  Q (.returned (.bool false)) w2) (
  sel (decide (xa1 < (0 : Int))) (
  j0 Aa0 na0 ca0 (na0 : Int) w2 (fun (b25 : Bool) (w26 : World) => ∀ _ : Fr,
  Q (.returned (.bool b25)) w26)) (
  sel (decide (xa1 > (na0 : Int))) (
  j0 Aa0 na0 ca0 (na0 : Int) w2 (fun (b27 : Bool) (w28 : World) => ∀ _ : Fr,
  Q (.returned (.bool b27)) w28)) (
  j0 Aa0 na0 ca0 xa1 w2 (fun (b29 : Bool) (w30 : World) => ∀ _ : Fr,
  Q (.returned (.bool b29)) w30)))))
def D : Nat → Option DH := dtab [(7, .simple [] [.fst 0, .fst 1, .fst 2, .fst 3, .fst 6, .eff 4, .eff 5, .fst 7, .fst 8, .fst 9, .fst 10, .fst 11, .fst 12, .fst 13, .fst 14, .fst 15, .fst 16, .fst 19, .eff 17, .eff 18, .fst 20, .fst 21, .fst 22, .fst 23, .fst 24, .eff 25, .fst 26, .fst 27])]
def j0LO : LO := ⟨[], [4], [], []⟩
def j0T : Spec := fun Q σ w =>
  gSlice (σ 0) fun At0 nt0 ct0 =>
  gInt .i64 (σ 1) fun xt1 =>
  j0 At0 nt0 ct0 xt1 w (fun (bq4 : Bool) (w : World) => ∀ d : Fr, Q .ret (ov d [(4, .bool bq4)]) w)
def j0tb : List (List Nat × Spec) := []
noncomputable def j0b : Code := (subC [1, 1, 1] body).getD .skip
theorem j0_eq (At0 : Option Addr) (nt0 : Nat) (ct0 : Nat) (xt1 : Int) (Q : PQ) (σ : Fr) (w : World) :
    j0 At0 nt0 ct0 xt1 w (fun (bq4 : Bool) (w : World) => ∀ d : Fr, Q .ret (ov d [(4, .bool bq4)]) w) = codeW Try.prog hT 50 D (tab j0tb) [1, 1, 1] j0b (widen j0LO Q) (ov σ [(0, .slice At0 nt0 ct0), (1, .int .i64 xt1)]) w := by kernel_rfl
theorem j0_snd : ∀ c, subC [1, 1, 1] body = some c → Snd Try.prog 50 c j0T := by
  refine cut_of (hT := hT) (D := D) (l := j0tb) (b := j0b) (lo := j0LO) (by kernel_rfl) (by
    intro x hx
    simp only [j0tb, List.not_mem_nil] at hx
    ) (by kernel_rfl) (by kernel_rfl) ?_
  intro Q σ w h
  unfold j0T at h
  obtain ⟨At0, nt0, ct0, h0, hn⟩ := gSlice_elim h
  clear h
  have h := hn
  clear hn
  obtain ⟨xt1, h1, hn⟩ := gInt_elim h
  clear h
  have h := hn
  clear hn
  rw [j0_eq (σ := σ)] at h
  have e : (ov σ [(0, .slice At0 nt0 ct0), (1, .int .i64 xt1)]) = σ := ov_self (by simp [h0, h1])
  rw [e] at h
  exact h
def tb : List (List Nat × Spec) := [([1, 1, 1], j0T)]
theorem wp_eq (Aa0 : Option Addr) (na0 : Nat) (ca0 : Nat) (xa1 : Int) (w : World) (Q : Ending → World → Prop) :
    wp Aa0 na0 ca0 xa1 w Q = codeW Try.prog hT 50 D (tab tb) [] body (topQ Try.prog hT 50 [.tmp 4] Q) (argsF [.slice Aa0 na0 ca0, .int .i64 xa1]) w := by kernel_rfl
theorem ok (Aa0 : Option Addr) (na0 : Nat) (ca0 : Nat) (xa1 : Int) (w : World) (Q : Ending → World → Prop) (h : wp Aa0 na0 ca0 xa1 w Q) : Calls Try.prog 3 #[.slice Aa0 na0 ca0, .int .i64 xa1] w Q := by
  rw [wp_eq] at h
  exact calls_of_codeW (c := body) (rs := [.tmp 4]) Try.func3 (by kernel_rfl) (by kernel_rfl) (by kernel_rfl) (by kernel_rfl) (by kernel_rfl) (tab_snd (by
    intro x hx
    simp only [tb, List.mem_cons, List.not_mem_nil, or_false] at hx
    subst hx
    exact j0_snd)) (by kernel_rfl) h
end f_law02_CrcSums
namespace f_law02_CrcSeals
/-! skein/skeinlaw02.CrcSeals: function 4 -/
noncomputable def body : Code := (Try.f4.body).getD .skip
def wp (Aa0 : Option Addr) (na0 : Nat) (ca0 : Nat) (w : World) (Q : Ending → World → Prop) : Prop :=
  Calls Try.prog 12 #[] w fun e1 w2 => ∃ (b3 : Bool), e1 = .returned (.bool b3) ∧ (
  sel (!b3) (
  Q (.returned (.bool false)) w2) (
  Calls Try.prog 13 #[.slice Aa0 na0 ca0] w2 fun e4 w5 => ∃ (A6 : Option Addr) (n6 : Nat) (c6 : Nat), e4 = .returned (.slice A6 n6 c6) ∧ (
  drW w5 fun w7 =>
  req (decide (0 ≤ (na0 : Int) ∧ (na0 : Int) ≤ (c6 : Int))) <|
  req (decide (0 ≤ (na0 : Int) ∧ (na0 : Int) ≤ (c6 : Int))) <|
  Calls Try.prog 18 #[.slice (slA A6 0 c6 1) ((na0 : Int).toNat - 0) (c6 - 0)] w7 fun e9 w10 => ∃ (A11 : Option Addr) (n11 : Nat) (c11 : Nat), e9 = .returned (.slice A11 n11 c11) ∧ (
  Calls Try.prog 18 #[.slice (slA A6 0 c6 1) ((na0 : Int).toNat - 0) (c6 - 0)] w10 fun e12 w13 => ∃ (A14 : Option Addr) (n14 : Nat) (c14 : Nat), e12 = .returned (.slice A14 n14 c14) ∧ (
  Calls Try.prog 19 #[.slice Aa0 na0 ca0] w13 fun e15 w16 => ∃ (A17 : Option Addr) (n17 : Nat) (c17 : Nat), e15 = .returned (.slice A17 n17 c17) ∧ (
  Calls Try.prog 17 #[.slice A11 n11 c11, .slice A14 n14 c14, .slice A17 n17 c17] w16 fun e18 w19 => ∃ (b20 : Bool), e18 = .returned (.bool b20) ∧ (
  sel (!b20) (
  Q (.returned (.bool false)) w19) (
  req (decide (0 ≤ (na0 : Int) ∧ (na0 : Int) ≤ (c6 : Int))) <|
  Calls Try.prog 20 #[.slice (slA A6 0 c6 1) ((na0 : Int).toNat - 0) (c6 - 0)] w19 fun e21 w22 => ∃ (A23_0 : Option Addr) (n23_0 : Nat) (c23_0 : Nat) (b23_1 : Bool), e21 = .returned (.tuple #[.slice A23_0 n23_0 c23_0, .bool b23_1]) ∧ (
  req (decide (0 ≤ (na0 : Int) ∧ (na0 : Int) ≤ (c6 : Int))) <|
  Calls Try.prog 20 #[.slice (slA A6 0 c6 1) ((na0 : Int).toNat - 0) (c6 - 0)] w22 fun e24 w25 => ∃ (A26_0 : Option Addr) (n26_0 : Nat) (c26_0 : Nat) (b26_1 : Bool), e24 = .returned (.tuple #[.slice A26_0 n26_0 c26_0, .bool b26_1]) ∧ (
  Calls Try.prog 21 #[.slice Aa0 na0 ca0] w25 fun e27 w28 => ∃ (A29_0 : Option Addr) (n29_0 : Nat) (c29_0 : Nat) (b29_1 : Bool), e27 = .returned (.tuple #[.slice A29_0 n29_0 c29_0, .bool b29_1]) ∧ (
  sel (b23_1 == b29_1) (
  Calls Try.prog 17 #[.slice A23_0 n23_0 c23_0, .slice A26_0 n26_0 c26_0, .slice A29_0 n29_0 c29_0] w28 fun e30 w31 => ∃ (b32 : Bool), e30 = .returned (.bool b32) ∧ (
  sel b32 (
  Calls Try.prog 16 #[.slice A6 n6 c6, .slice Aa0 na0 ca0] w31 fun e33 w34 => ∃ (b35 : Bool), e33 = .returned (.bool b35) ∧ (
  Q (.returned (.bool b35)) w34)) (
  Q (.returned (.bool false)) w31))) (
  Q (.returned (.bool false)) w28))))))))))))
def D : Nat → Option DH := dtab [(4, .simple [] [.fst 0, .fst 1, .fst 2, .fst 3, .fst 5, .fst 6, .fst 7, .fst 8, .fst 10, .eff 4, .eff 9, .eff 11, .eff 12, .fst 13])]
def tb : List (List Nat × Spec) := []
theorem wp_eq (Aa0 : Option Addr) (na0 : Nat) (ca0 : Nat) (w : World) (Q : Ending → World → Prop) :
    wp Aa0 na0 ca0 w Q = codeW Try.prog hT 63 D (tab tb) [] body (topQ Try.prog hT 63 [.tmp 2] Q) (argsF [.slice Aa0 na0 ca0]) w := by kernel_rfl
theorem ok (Aa0 : Option Addr) (na0 : Nat) (ca0 : Nat) (w : World) (Q : Ending → World → Prop) (h : wp Aa0 na0 ca0 w Q) : Calls Try.prog 4 #[.slice Aa0 na0 ca0] w Q := by
  rw [wp_eq] at h
  exact calls_of_codeW (c := body) (rs := [.tmp 2]) Try.func4 (by kernel_rfl) (by kernel_rfl) (by kernel_rfl) (by kernel_rfl) (by kernel_rfl) (tab_snd (by
    intro x hx
    simp only [tb, List.not_mem_nil] at hx
    )) (by kernel_rfl) h
end f_law02_CrcSeals
namespace f_law02_CrcAdds
/-! skein/skeinlaw02.CrcAdds: function 5 -/
noncomputable def body : Code := (Try.f5.body).getD .skip
def od9 : OD := ⟨[0, 1, 2, 7, 8], [1, 2, 5, 6, 7, 10, 11, 12, 16, 17, 18], fun i => ([⟨false, [], [], fun ps vs => match ps, vs with | [.slice Ap0 np0 cp0, .slice Ap1 np1 cp1, .slice Ap2 np2 cp2, .int _ xp7, .slice Ap8 np8 cp8], [] => .slice Ap8 np8 cp8 | _, _ => undef⟩,
  ⟨true, [], [0], fun _ _ => undef⟩,
  ⟨true, [1], [1], fun _ _ => undef⟩,
  ⟨false, [], [], fun ps vs => match ps, vs with | [.slice Ap0 np0 cp0, .slice Ap1 np1 cp1, .slice Ap2 np2 cp2, .int _ xp7, .slice Ap8 np8 cp8], [] => .slice Ap0 np0 cp0 | _, _ => undef⟩,
  ⟨false, [], [], fun ps vs => match ps, vs with | [.slice Ap0 np0 cp0, .slice Ap1 np1 cp1, .slice Ap2 np2 cp2, .int _ xp7, .slice Ap8 np8 cp8], [] => .int .i64 xp7 | _, _ => undef⟩,
  ⟨true, [], [3, 4], fun _ _ => undef⟩,
  ⟨true, [5], [5], fun _ _ => undef⟩,
  ⟨true, [1, 2, 5, 6], [6], fun _ _ => undef⟩,
  ⟨false, [], [], fun ps vs => match ps, vs with | [.slice Ap0 np0 cp0, .slice Ap1 np1 cp1, .slice Ap2 np2 cp2, .int _ xp7, .slice Ap8 np8 cp8], [] => .slice Ap1 np1 cp1 | _, _ => undef⟩,
  ⟨false, [], [], fun ps vs => match ps, vs with | [.slice Ap0 np0 cp0, .slice Ap1 np1 cp1, .slice Ap2 np2 cp2, .int _ xp7, .slice Ap8 np8 cp8], [] => .int .i64 xp7 | _, _ => undef⟩,
  ⟨true, [], [8, 9], fun _ _ => undef⟩,
  ⟨true, [10], [10], fun _ _ => undef⟩,
  ⟨true, [1, 2, 5, 6, 7, 10, 11], [11], fun _ _ => undef⟩,
  ⟨false, [1, 2, 5, 6, 7, 10, 11, 12], [7, 12], fun ps vs => match ps, vs with | [.slice Ap0 np0 cp0, .slice Ap1 np1 cp1, .slice Ap2 np2 cp2, .int _ xp7, .slice Ap8 np8 cp8], [.slice Ae1 ne1 ce1, .int _ xe2, .slice Ae5 ne5 ce5, .slice Ae6 ne6 ce6, .int _ xe7, .slice Ae10 ne10 ce10, .slice Ae11 ne11 ce11, .int _ xe12] => .int .u32 (bxor .u32 xe7 xe12) | _, _ => undef⟩,
  ⟨false, [], [], fun ps vs => match ps, vs with | [.slice Ap0 np0 cp0, .slice Ap1 np1 cp1, .slice Ap2 np2 cp2, .int _ xp7, .slice Ap8 np8 cp8], [] => .slice Ap2 np2 cp2 | _, _ => undef⟩,
  ⟨false, [], [], fun ps vs => match ps, vs with | [.slice Ap0 np0 cp0, .slice Ap1 np1 cp1, .slice Ap2 np2 cp2, .int _ xp7, .slice Ap8 np8 cp8], [] => .int .i64 xp7 | _, _ => undef⟩,
  ⟨true, [], [14, 15], fun _ _ => undef⟩,
  ⟨true, [16], [16], fun _ _ => undef⟩,
  ⟨true, [1, 2, 5, 6, 7, 10, 11, 12, 16, 17], [17], fun _ _ => undef⟩,
  ⟨false, [1, 2, 5, 6, 7, 10, 11, 12, 16, 17, 18], [13, 18], fun ps vs => match ps, vs with | [.slice Ap0 np0 cp0, .slice Ap1 np1 cp1, .slice Ap2 np2 cp2, .int _ xp7, .slice Ap8 np8 cp8], [.slice Ae1 ne1 ce1, .int _ xe2, .slice Ae5 ne5 ce5, .slice Ae6 ne6 ce6, .int _ xe7, .slice Ae10 ne10 ce10, .slice Ae11 ne11 ce11, .int _ xe12, .slice Ae16 ne16 ce16, .slice Ae17 ne17 ce17, .int _ xe18] => .int .u32 (bxor .u32 (bxor .u32 xe7 xe12) xe18) | _, _ => undef⟩,
  ⟨false, [1, 2, 5, 6, 7, 10, 11, 12, 16, 17, 18], [2, 19], fun ps vs => match ps, vs with | [.slice Ap0 np0 cp0, .slice Ap1 np1 cp1, .slice Ap2 np2 cp2, .int _ xp7, .slice Ap8 np8 cp8], [.slice Ae1 ne1 ce1, .int _ xe2, .slice Ae5 ne5 ce5, .slice Ae6 ne6 ce6, .int _ xe7, .slice Ae10 ne10 ce10, .slice Ae11 ne11 ce11, .int _ xe12, .slice Ae16 ne16 ce16, .slice Ae17 ne17 ce17, .int _ xe18] => .bool (xe2 == (bxor .u32 (bxor .u32 xe7 xe12) xe18)) | _, _ => undef⟩,
  ⟨false, [1, 2, 5, 6, 7, 10, 11, 12, 16, 17, 18], [20], fun ps vs => match ps, vs with | [.slice Ap0 np0 cp0, .slice Ap1 np1 cp1, .slice Ap2 np2 cp2, .int _ xp7, .slice Ap8 np8 cp8], [.slice Ae1 ne1 ce1, .int _ xe2, .slice Ae5 ne5 ce5, .slice Ae6 ne6 ce6, .int _ xe7, .slice Ae10 ne10 ce10, .slice Ae11 ne11 ce11, .int _ xe12, .slice Ae16 ne16 ce16, .slice Ae17 ne17 ce17, .int _ xe18] => .bool (xe2 == (bxor .u32 (bxor .u32 xe7 xe12) xe18)) | _, _ => undef⟩] : List OI).getD i ⟨true, [], [], fun _ _ => undef⟩, fun i => ([.one (.sc .any), (.one (.sc .slice)), (.one (.sc (.int .u32))), .one (.sc .any), .one (.sc .any), (.one (.sc .slice)), (.one (.sc .slice)), (.one (.sc (.int .u32))), .one (.sc .any), .one (.sc .any), (.one (.sc .slice)), (.one (.sc .slice)), (.one (.sc (.int .u32))), .one (.sc .any), .one (.sc .any), .one (.sc .any), (.one (.sc .slice)), (.one (.sc .slice)), (.one (.sc (.int .u32))), .one (.sc .any), .one (.sc .any), .one (.sc .any)] : List OS).getD i (.one (.sc .any))⟩
def h9 (Ap0 : Option Addr) (np0 : Nat) (cp0 : Nat) (Ap1 : Option Addr) (np1 : Nat) (cp1 : Nat) (Ap2 : Option Addr) (np2 : Nat) (cp2 : Nat) (xp7 : Int) (Ap8 : Option Addr) (np8 : Nat) (cp8 : Nat) : Prop :=
  (∀ (_ : Fr) (w : World),
  w = w ∧ (.slice Ap8 np8 cp8 : Value) = (.slice Ap8 np8 cp8)) ∧
  (∀ (_ : Fr) (w : World),
  w = w ∧ (.slice Ap0 np0 cp0 : Value) = (.slice Ap0 np0 cp0)) ∧
  (∀ (_ : Fr) (w : World),
  w = w ∧ (.int .i64 xp7 : Value) = (.int .i64 xp7)) ∧
  (∀ (_ : Fr) (w : World),
  w = w ∧ (.slice Ap1 np1 cp1 : Value) = (.slice Ap1 np1 cp1)) ∧
  (∀ (_ : Fr) (w : World),
  w = w ∧ (.int .i64 xp7 : Value) = (.int .i64 xp7)) ∧
  (∀ (_ : Fr) (w : World),
  ∀ (Ae1 : Option Addr) (ne1 : Nat) (ce1 : Nat),
  ∀ (xe2 : Int),
  ∀ (Ae5 : Option Addr) (ne5 : Nat) (ce5 : Nat),
  ∀ (Ae6 : Option Addr) (ne6 : Nat) (ce6 : Nat),
  ∀ (xe7 : Int),
  ∀ (Ae10 : Option Addr) (ne10 : Nat) (ce10 : Nat),
  ∀ (Ae11 : Option Addr) (ne11 : Nat) (ce11 : Nat),
  ∀ (xe12 : Int),
  w = w ∧ (.int .u32 (bxor .u32 xe7 xe12) : Value) = (.int .u32 (bxor .u32 xe7 xe12))) ∧
  (∀ (_ : Fr) (w : World),
  w = w ∧ (.slice Ap2 np2 cp2 : Value) = (.slice Ap2 np2 cp2)) ∧
  (∀ (_ : Fr) (w : World),
  w = w ∧ (.int .i64 xp7 : Value) = (.int .i64 xp7)) ∧
  (∀ (_ : Fr) (w : World),
  ∀ (Ae1 : Option Addr) (ne1 : Nat) (ce1 : Nat),
  ∀ (xe2 : Int),
  ∀ (Ae5 : Option Addr) (ne5 : Nat) (ce5 : Nat),
  ∀ (Ae6 : Option Addr) (ne6 : Nat) (ce6 : Nat),
  ∀ (xe7 : Int),
  ∀ (Ae10 : Option Addr) (ne10 : Nat) (ce10 : Nat),
  ∀ (Ae11 : Option Addr) (ne11 : Nat) (ce11 : Nat),
  ∀ (xe12 : Int),
  ∀ (Ae16 : Option Addr) (ne16 : Nat) (ce16 : Nat),
  ∀ (Ae17 : Option Addr) (ne17 : Nat) (ce17 : Nat),
  ∀ (xe18 : Int),
  w = w ∧ (.int .u32 (bxor .u32 (bxor .u32 xe7 xe12) xe18) : Value) = (.int .u32 (bxor .u32 (bxor .u32 xe7 xe12) xe18))) ∧
  (∀ (_ : Fr) (w : World),
  ∀ (Ae1 : Option Addr) (ne1 : Nat) (ce1 : Nat),
  ∀ (xe2 : Int),
  ∀ (Ae5 : Option Addr) (ne5 : Nat) (ce5 : Nat),
  ∀ (Ae6 : Option Addr) (ne6 : Nat) (ce6 : Nat),
  ∀ (xe7 : Int),
  ∀ (Ae10 : Option Addr) (ne10 : Nat) (ce10 : Nat),
  ∀ (Ae11 : Option Addr) (ne11 : Nat) (ce11 : Nat),
  ∀ (xe12 : Int),
  ∀ (Ae16 : Option Addr) (ne16 : Nat) (ce16 : Nat),
  ∀ (Ae17 : Option Addr) (ne17 : Nat) (ce17 : Nat),
  ∀ (xe18 : Int),
  w = w ∧ (.bool (xe2 == (bxor .u32 (bxor .u32 xe7 xe12) xe18)) : Value) = (.bool (xe2 == (bxor .u32 (bxor .u32 xe7 xe12) xe18)))) ∧
  (∀ (_ : Fr) (w : World),
  ∀ (Ae1 : Option Addr) (ne1 : Nat) (ce1 : Nat),
  ∀ (xe2 : Int),
  ∀ (Ae5 : Option Addr) (ne5 : Nat) (ce5 : Nat),
  ∀ (Ae6 : Option Addr) (ne6 : Nat) (ce6 : Nat),
  ∀ (xe7 : Int),
  ∀ (Ae10 : Option Addr) (ne10 : Nat) (ce10 : Nat),
  ∀ (Ae11 : Option Addr) (ne11 : Nat) (ce11 : Nat),
  ∀ (xe12 : Int),
  ∀ (Ae16 : Option Addr) (ne16 : Nat) (ce16 : Nat),
  ∀ (Ae17 : Option Addr) (ne17 : Nat) (ce17 : Nat),
  ∀ (xe18 : Int),
  w = w ∧ (.bool (xe2 == (bxor .u32 (bxor .u32 xe7 xe12) xe18)) : Value) = (.bool (xe2 == (bxor .u32 (bxor .u32 xe7 xe12) xe18)))) ∧
  True
theorem h9_ok (Ap0 : Option Addr) (np0 : Nat) (cp0 : Nat) (Ap1 : Option Addr) (np1 : Nat) (cp1 : Nat) (Ap2 : Option Addr) (np2 : Nat) (cp2 : Nat) (xp7 : Int) (Ap8 : Option Addr) (np8 : Nat) (cp8 : Nat) : h9 Ap0 np0 cp0 Ap1 np1 cp1 Ap2 np2 cp2 xp7 Ap8 np8 cp8 := ⟨fun _ w => ⟨rfl, rfl⟩, fun _ w => ⟨rfl, rfl⟩, fun _ w => ⟨rfl, rfl⟩, fun _ w => ⟨rfl, rfl⟩, fun _ w => ⟨rfl, rfl⟩, fun _ w _ _ _ _ _ _ _ _ _ _ _ _ _ _ _ _ _ _ => ⟨rfl, rfl⟩, fun _ w => ⟨rfl, rfl⟩, fun _ w => ⟨rfl, rfl⟩, fun _ w _ _ _ _ _ _ _ _ _ _ _ _ _ _ _ _ _ _ _ _ _ _ _ _ _ => ⟨rfl, rfl⟩, fun _ w _ _ _ _ _ _ _ _ _ _ _ _ _ _ _ _ _ _ _ _ _ _ _ _ _ => ⟨rfl, rfl⟩, fun _ w _ _ _ _ _ _ _ _ _ _ _ _ _ _ _ _ _ _ _ _ _ _ _ _ _ => ⟨rfl, rfl⟩, trivial⟩
def l0 : Nat → Option Addr → Nat → Nat → Option Addr → Nat → Nat → Option Addr → Nat → Nat → Int → Option Addr → Nat → Nat → Int → World → ((Option Addr) → Nat → Nat → World → Prop) → Prop
  | 0, _, _, _, _, _, _, _, _, _, _, _, _, _, _, _, _ => False
  | k + 1, At0, nt0, ct0, At1, nt1, ct1, At2, nt2, ct2, xt7, At8, nt8, ct8, xt9, w, K0 =>
    sel (decide (xt9 < xt7)) (
    drW w fun w6 =>
    ∃ S7 : World → Prop, S7 w6 ∧ (
    optB At0 fun a8 =>
    req (decide (0 ≤ xt9 ∧ xt9 < (nt0 : Int))) <|
    hdI S7 (a8.add (xt9.toNat * 1)) .u8 fun x9 =>
    optB At1 fun a10 =>
    req (decide (0 ≤ xt9 ∧ xt9 < (nt1 : Int))) <|
    hdI S7 (a10.add (xt9.toNat * 1)) .u8 fun x11 =>
    optB At2 fun a12 =>
    req (decide (0 ≤ xt9 ∧ xt9 < (nt2 : Int))) <|
    hdI S7 (a12.add (xt9.toNat * 1)) .u8 fun x13 =>
    alW w6 (.cells #[.int .u8 (bxor .u8 (bxor .u8 x9 x11) x13)] 5) fun B14 w15 =>
    S7 w15 ∧ (
    Runs Try.prog (Builtin.append_ #[22, 22] 22 #[.slice At8 nt8 ct8, .slice (some (⟨B14, 0, Option.none⟩ : Addr)) 1 1]) w15 fun v17 w16 => ∃ (A18 : Option Addr) (n18 : Nat) (c18 : Nat), v17 = (.slice A18 n18 c18) ∧ (
    l0 k At0 nt0 ct0 At1 nt1 ct1 At2 nt2 ct2 xt7 A18 n18 c18 (IntKind.i64.wrap (xt9 + (1 : Int))) w16 K0)))) (
    K0 At8 nt8 ct8 w)
def wp (Aa0 : Option Addr) (na0 : Nat) (ca0 : Nat) (Aa1 : Option Addr) (na1 : Nat) (ca1 : Nat) (Aa2 : Option Addr) (na2 : Nat) (ca2 : Nat) (w : World) (Q : Ending → World → Prop) : Prop :=
  Calls Try.prog 12 #[] w fun e1 w2 => ∃ (b3 : Bool), e1 = .returned (.bool b3) ∧ (
  sel (!b3) (
  Q (.returned (.bool false)) w2) (
  alW w2 (.cells #[] 5) fun B4 w5 =>
  ∃ k56 : Nat, l0 k56 Aa0 na0 ca0 Aa1 na1 ca1 Aa2 na2 ca2 (if (na2 : Int) < (if (na1 : Int) < (na0 : Int) then (na1 : Int) else (na0 : Int)) then (na2 : Int) else (if (na1 : Int) < (na0 : Int) then (na1 : Int) else (na0 : Int))) (some (⟨B4, 0, Option.none⟩ : Addr)) 0 0 (0 : Int) w5 (fun (A19 : Option Addr) (n19 : Nat) (c19 : Nat) (w20 : World) => ∀ _ : Fr,
  drW w20 fun w21 =>
  h9 Aa0 na0 ca0 Aa1 na1 ca1 Aa2 na2 ca2 (if (na2 : Int) < (if (na1 : Int) < (na0 : Int) then (na1 : Int) else (na0 : Int)) then (na2 : Int) else (if (na1 : Int) < (na0 : Int) then (na1 : Int) else (na0 : Int))) A19 n19 c19 ∧
  ∃ (G22 : World → World → Prop) (Φ23 : Nat → Value → World → Prop), (∀ w, G22 w w) ∧ (∀ a b c, G22 a b → G22 b c → G22 a c) ∧ (∀ i v a b, G22 w21 a → G22 a b → Φ23 i v a → Φ23 i v b) ∧ (
  (∀ (_ : Fr) (w24 : World), G22 w21 w24 →
  (
  alW w24 (.cells #[.slice A19 n19 c19] 22) fun B25 w26 =>
  G22 w24 w26 ∧ Φ23 1 (.slice (some (⟨B25, 0, Option.none⟩ : Addr)) 1 1) w26)) ∧
  (∀ (_ : Fr) (w27 : World), G22 w21 w27 →
  ∀ (Ae1 : Option Addr) (ne1 : Nat) (ce1 : Nat),
  Φ23 1 (.slice Ae1 ne1 ce1) w27 →
  (
  Calls Try.prog 15 #[.slice Ae1 ne1 ce1] w27 fun e28 w29 => ∃ (x30 : Int), e28 = .returned (.int .u32 x30) ∧ (
  G22 w27 w29 ∧ Φ23 2 (.int .u32 x30) w29))) ∧
  (∀ (_ : Fr) (w31 : World), G22 w21 w31 →
  (
  req (decide (0 ≤ (if (na2 : Int) < (if (na1 : Int) < (na0 : Int) then (na1 : Int) else (na0 : Int)) then (na2 : Int) else (if (na1 : Int) < (na0 : Int) then (na1 : Int) else (na0 : Int))) ∧ (if (na2 : Int) < (if (na1 : Int) < (na0 : Int) then (na1 : Int) else (na0 : Int)) then (na2 : Int) else (if (na1 : Int) < (na0 : Int) then (na1 : Int) else (na0 : Int))) ≤ (ca0 : Int))) <|
  G22 w31 w31 ∧ Φ23 5 (.slice (slA Aa0 0 ca0 1) ((if (na2 : Int) < (if (na1 : Int) < (na0 : Int) then (na1 : Int) else (na0 : Int)) then (na2 : Int) else (if (na1 : Int) < (na0 : Int) then (na1 : Int) else (na0 : Int))).toNat - 0) (ca0 - 0)) w31)) ∧
  (∀ (_ : Fr) (w32 : World), G22 w21 w32 →
  ∀ (Ae5 : Option Addr) (ne5 : Nat) (ce5 : Nat),
  Φ23 5 (.slice Ae5 ne5 ce5) w32 →
  (
  alW w32 (.cells #[.slice Ae5 ne5 ce5] 22) fun B33 w34 =>
  G22 w32 w34 ∧ Φ23 6 (.slice (some (⟨B33, 0, Option.none⟩ : Addr)) 1 1) w34)) ∧
  (∀ (_ : Fr) (w35 : World), G22 w21 w35 →
  ∀ (Ae1 : Option Addr) (ne1 : Nat) (ce1 : Nat),
  Φ23 1 (.slice Ae1 ne1 ce1) w35 →
  ∀ (xe2 : Int),
  Φ23 2 (.int .u32 xe2) w35 →
  ∀ (Ae5 : Option Addr) (ne5 : Nat) (ce5 : Nat),
  Φ23 5 (.slice Ae5 ne5 ce5) w35 →
  ∀ (Ae6 : Option Addr) (ne6 : Nat) (ce6 : Nat),
  Φ23 6 (.slice Ae6 ne6 ce6) w35 →
  (
  Calls Try.prog 15 #[.slice Ae6 ne6 ce6] w35 fun e36 w37 => ∃ (x38 : Int), e36 = .returned (.int .u32 x38) ∧ (
  G22 w35 w37 ∧ Φ23 7 (.int .u32 x38) w37))) ∧
  (∀ (_ : Fr) (w39 : World), G22 w21 w39 →
  (
  req (decide (0 ≤ (if (na2 : Int) < (if (na1 : Int) < (na0 : Int) then (na1 : Int) else (na0 : Int)) then (na2 : Int) else (if (na1 : Int) < (na0 : Int) then (na1 : Int) else (na0 : Int))) ∧ (if (na2 : Int) < (if (na1 : Int) < (na0 : Int) then (na1 : Int) else (na0 : Int)) then (na2 : Int) else (if (na1 : Int) < (na0 : Int) then (na1 : Int) else (na0 : Int))) ≤ (ca1 : Int))) <|
  G22 w39 w39 ∧ Φ23 10 (.slice (slA Aa1 0 ca1 1) ((if (na2 : Int) < (if (na1 : Int) < (na0 : Int) then (na1 : Int) else (na0 : Int)) then (na2 : Int) else (if (na1 : Int) < (na0 : Int) then (na1 : Int) else (na0 : Int))).toNat - 0) (ca1 - 0)) w39)) ∧
  (∀ (_ : Fr) (w40 : World), G22 w21 w40 →
  ∀ (Ae10 : Option Addr) (ne10 : Nat) (ce10 : Nat),
  Φ23 10 (.slice Ae10 ne10 ce10) w40 →
  (
  alW w40 (.cells #[.slice Ae10 ne10 ce10] 22) fun B41 w42 =>
  G22 w40 w42 ∧ Φ23 11 (.slice (some (⟨B41, 0, Option.none⟩ : Addr)) 1 1) w42)) ∧
  (∀ (_ : Fr) (w43 : World), G22 w21 w43 →
  ∀ (Ae1 : Option Addr) (ne1 : Nat) (ce1 : Nat),
  Φ23 1 (.slice Ae1 ne1 ce1) w43 →
  ∀ (xe2 : Int),
  Φ23 2 (.int .u32 xe2) w43 →
  ∀ (Ae5 : Option Addr) (ne5 : Nat) (ce5 : Nat),
  Φ23 5 (.slice Ae5 ne5 ce5) w43 →
  ∀ (Ae6 : Option Addr) (ne6 : Nat) (ce6 : Nat),
  Φ23 6 (.slice Ae6 ne6 ce6) w43 →
  ∀ (xe7 : Int),
  Φ23 7 (.int .u32 xe7) w43 →
  ∀ (Ae10 : Option Addr) (ne10 : Nat) (ce10 : Nat),
  Φ23 10 (.slice Ae10 ne10 ce10) w43 →
  ∀ (Ae11 : Option Addr) (ne11 : Nat) (ce11 : Nat),
  Φ23 11 (.slice Ae11 ne11 ce11) w43 →
  (
  Calls Try.prog 15 #[.slice Ae11 ne11 ce11] w43 fun e44 w45 => ∃ (x46 : Int), e44 = .returned (.int .u32 x46) ∧ (
  G22 w43 w45 ∧ Φ23 12 (.int .u32 x46) w45))) ∧
  (∀ (_ : Fr) (w47 : World), G22 w21 w47 →
  (
  req (decide (0 ≤ (if (na2 : Int) < (if (na1 : Int) < (na0 : Int) then (na1 : Int) else (na0 : Int)) then (na2 : Int) else (if (na1 : Int) < (na0 : Int) then (na1 : Int) else (na0 : Int))) ∧ (if (na2 : Int) < (if (na1 : Int) < (na0 : Int) then (na1 : Int) else (na0 : Int)) then (na2 : Int) else (if (na1 : Int) < (na0 : Int) then (na1 : Int) else (na0 : Int))) ≤ (ca2 : Int))) <|
  G22 w47 w47 ∧ Φ23 16 (.slice (slA Aa2 0 ca2 1) ((if (na2 : Int) < (if (na1 : Int) < (na0 : Int) then (na1 : Int) else (na0 : Int)) then (na2 : Int) else (if (na1 : Int) < (na0 : Int) then (na1 : Int) else (na0 : Int))).toNat - 0) (ca2 - 0)) w47)) ∧
  (∀ (_ : Fr) (w48 : World), G22 w21 w48 →
  ∀ (Ae16 : Option Addr) (ne16 : Nat) (ce16 : Nat),
  Φ23 16 (.slice Ae16 ne16 ce16) w48 →
  (
  alW w48 (.cells #[.slice Ae16 ne16 ce16] 22) fun B49 w50 =>
  G22 w48 w50 ∧ Φ23 17 (.slice (some (⟨B49, 0, Option.none⟩ : Addr)) 1 1) w50)) ∧
  (∀ (_ : Fr) (w51 : World), G22 w21 w51 →
  ∀ (Ae1 : Option Addr) (ne1 : Nat) (ce1 : Nat),
  Φ23 1 (.slice Ae1 ne1 ce1) w51 →
  ∀ (xe2 : Int),
  Φ23 2 (.int .u32 xe2) w51 →
  ∀ (Ae5 : Option Addr) (ne5 : Nat) (ce5 : Nat),
  Φ23 5 (.slice Ae5 ne5 ce5) w51 →
  ∀ (Ae6 : Option Addr) (ne6 : Nat) (ce6 : Nat),
  Φ23 6 (.slice Ae6 ne6 ce6) w51 →
  ∀ (xe7 : Int),
  Φ23 7 (.int .u32 xe7) w51 →
  ∀ (Ae10 : Option Addr) (ne10 : Nat) (ce10 : Nat),
  Φ23 10 (.slice Ae10 ne10 ce10) w51 →
  ∀ (Ae11 : Option Addr) (ne11 : Nat) (ce11 : Nat),
  Φ23 11 (.slice Ae11 ne11 ce11) w51 →
  ∀ (xe12 : Int),
  Φ23 12 (.int .u32 xe12) w51 →
  ∀ (Ae16 : Option Addr) (ne16 : Nat) (ce16 : Nat),
  Φ23 16 (.slice Ae16 ne16 ce16) w51 →
  ∀ (Ae17 : Option Addr) (ne17 : Nat) (ce17 : Nat),
  Φ23 17 (.slice Ae17 ne17 ce17) w51 →
  (
  Calls Try.prog 15 #[.slice Ae17 ne17 ce17] w51 fun e52 w53 => ∃ (x54 : Int), e52 = .returned (.int .u32 x54) ∧ (
  G22 w51 w53 ∧ Φ23 18 (.int .u32 x54) w53))) ∧ True) ∧
  ∀ w55, G22 w21 w55 →
  ∀ (Ae1 : Option Addr) (ne1 : Nat) (ce1 : Nat),
  Φ23 1 (.slice Ae1 ne1 ce1) w55 →
  ∀ (xe2 : Int),
  Φ23 2 (.int .u32 xe2) w55 →
  ∀ (Ae5 : Option Addr) (ne5 : Nat) (ce5 : Nat),
  Φ23 5 (.slice Ae5 ne5 ce5) w55 →
  ∀ (Ae6 : Option Addr) (ne6 : Nat) (ce6 : Nat),
  Φ23 6 (.slice Ae6 ne6 ce6) w55 →
  ∀ (xe7 : Int),
  Φ23 7 (.int .u32 xe7) w55 →
  ∀ (Ae10 : Option Addr) (ne10 : Nat) (ce10 : Nat),
  Φ23 10 (.slice Ae10 ne10 ce10) w55 →
  ∀ (Ae11 : Option Addr) (ne11 : Nat) (ce11 : Nat),
  Φ23 11 (.slice Ae11 ne11 ce11) w55 →
  ∀ (xe12 : Int),
  Φ23 12 (.int .u32 xe12) w55 →
  ∀ (Ae16 : Option Addr) (ne16 : Nat) (ce16 : Nat),
  Φ23 16 (.slice Ae16 ne16 ce16) w55 →
  ∀ (Ae17 : Option Addr) (ne17 : Nat) (ce17 : Nat),
  Φ23 17 (.slice Ae17 ne17 ce17) w55 →
  ∀ (xe18 : Int),
  Φ23 18 (.int .u32 xe18) w55 →
  (
  Q (.returned (.bool (xe2 == (bxor .u32 (bxor .u32 xe7 xe12) xe18)))) w55))))
def D : Nat → Option DH := dtab [(8, .held [.fst 0, .fst 1, .fst 2, .fst 3, .fst 4, .fst 5, .fst 6, .fst 7, .fst 8, .fst 9, .fst 10, .fst 11, .fst 12, .fst 13, .fst 14, .eff 15] [.eff 16, .fst 17]), (9, .opn od9)]
def l0LO : LO := ⟨[], [], [(0, [0, 1, 2, 7, 8])], []⟩
def l0Tk (k : Nat) : Spec := fun Q σ w =>
  gSlice (σ 0) fun At0 nt0 ct0 =>
  gSlice (σ 1) fun At1 nt1 ct1 =>
  gSlice (σ 2) fun At2 nt2 ct2 =>
  gInt .i64 (σ 7) fun xt7 =>
  gSlice (σ 8) fun At8 nt8 ct8 =>
  gInt .i64 (σ 9) fun xt9 =>
  l0 k At0 nt0 ct0 At1 nt1 ct1 At2 nt2 ct2 xt7 At8 nt8 ct8 xt9 w (fun (Aq8 : Option Addr) (nq8 : Nat) (cq8 : Nat) (w : World) => ∀ d : Fr, Q (.exit 0) (ov d [(0, .slice At0 nt0 ct0), (1, .slice At1 nt1 ct1), (2, .slice At2 nt2 ct2), (7, .int .i64 xt7), (8, .slice Aq8 nq8 cq8)]) w)
def l0T : Spec := fun Q σ w => ∃ k, l0Tk k Q σ w
def l0tb : List (List Nat × Spec) := []
noncomputable def l0b : Code := (subC [0, 0, 1, 0, 1, 1, 1, 1] body).getD .skip
theorem l0_eq (k : Nat) (At0 : Option Addr) (nt0 : Nat) (ct0 : Nat) (At1 : Option Addr) (nt1 : Nat) (ct1 : Nat) (At2 : Option Addr) (nt2 : Nat) (ct2 : Nat) (xt7 : Int) (At8 : Option Addr) (nt8 : Nat) (ct8 : Nat) (xt9 : Int) (Q : PQ) (σ : Fr) (w : World) :
    l0 (k + 1) At0 nt0 ct0 At1 nt1 ct1 At2 nt2 ct2 xt7 At8 nt8 ct8 xt9 w (fun (Aq8 : Option Addr) (nq8 : Nat) (cq8 : Nat) (w : World) => ∀ d : Fr, Q (.exit 0) (ov d [(0, .slice At0 nt0 ct0), (1, .slice At1 nt1 ct1), (2, .slice At2 nt2 ct2), (7, .int .i64 xt7), (8, .slice Aq8 nq8 cq8)]) w) = codeW Try.prog hT 63 D (tab l0tb) [0, 0, 1, 0, 1, 1, 1, 1] l0b (thenQ (l0Tk k Q) (widen l0LO Q)) (ov σ [(0, .slice At0 nt0 ct0), (1, .slice At1 nt1 ct1), (2, .slice At2 nt2 ct2), (7, .int .i64 xt7), (8, .slice At8 nt8 ct8), (9, .int .i64 xt9)]) w := by kernel_rfl
theorem l0_snd : ∀ c, subC [0, 1, 0, 1, 1, 1, 1] body = some c → Snd Try.prog 63 c l0T := by
  refine loop_of (hT := hT) (D := D) (l := l0tb) (b := l0b) (lo := l0LO) (by kernel_rfl) (by
    intro x hx
    simp only [l0tb, List.not_mem_nil] at hx
    ) (by kernel_rfl) (by kernel_rfl) ?_ ?_
  · intro Q σ w h
    unfold l0Tk at h
    obtain ⟨At0, nt0, ct0, h0, hn⟩ := gSlice_elim h
    clear h
    have h := hn
    clear hn
    obtain ⟨At1, nt1, ct1, h1, hn⟩ := gSlice_elim h
    clear h
    have h := hn
    clear hn
    obtain ⟨At2, nt2, ct2, h2, hn⟩ := gSlice_elim h
    clear h
    have h := hn
    clear hn
    obtain ⟨xt7, h7, hn⟩ := gInt_elim h
    clear h
    have h := hn
    clear hn
    obtain ⟨At8, nt8, ct8, h8, hn⟩ := gSlice_elim h
    clear h
    have h := hn
    clear hn
    obtain ⟨xt9, h9, hn⟩ := gInt_elim h
    clear h
    have h := hn
    clear hn
    exact h
  · intro k Q σ w h
    unfold l0Tk at h
    obtain ⟨At0, nt0, ct0, h0, hn⟩ := gSlice_elim h
    clear h
    have h := hn
    clear hn
    obtain ⟨At1, nt1, ct1, h1, hn⟩ := gSlice_elim h
    clear h
    have h := hn
    clear hn
    obtain ⟨At2, nt2, ct2, h2, hn⟩ := gSlice_elim h
    clear h
    have h := hn
    clear hn
    obtain ⟨xt7, h7, hn⟩ := gInt_elim h
    clear h
    have h := hn
    clear hn
    obtain ⟨At8, nt8, ct8, h8, hn⟩ := gSlice_elim h
    clear h
    have h := hn
    clear hn
    obtain ⟨xt9, h9, hn⟩ := gInt_elim h
    clear h
    have h := hn
    clear hn
    rw [l0_eq (σ := σ)] at h
    have e : (ov σ [(0, .slice At0 nt0 ct0), (1, .slice At1 nt1 ct1), (2, .slice At2 nt2 ct2), (7, .int .i64 xt7), (8, .slice At8 nt8 ct8), (9, .int .i64 xt9)]) = σ := ov_self (by simp [h0, h1, h2, h7, h8, h9])
    rw [e] at h
    exact h
def tb : List (List Nat × Spec) := [([0, 1, 0, 1, 1, 1, 1], l0T)]
theorem wp_eq (Aa0 : Option Addr) (na0 : Nat) (ca0 : Nat) (Aa1 : Option Addr) (na1 : Nat) (ca1 : Nat) (Aa2 : Option Addr) (na2 : Nat) (ca2 : Nat) (w : World) (Q : Ending → World → Prop) :
    wp Aa0 na0 ca0 Aa1 na1 ca1 Aa2 na2 ca2 w Q = codeW Try.prog hT 63 D (tab tb) [] body (topQ Try.prog hT 63 [.tmp 6] Q) (argsF [.slice Aa0 na0 ca0, .slice Aa1 na1 ca1, .slice Aa2 na2 ca2]) w := by kernel_rfl
theorem ok (Aa0 : Option Addr) (na0 : Nat) (ca0 : Nat) (Aa1 : Option Addr) (na1 : Nat) (ca1 : Nat) (Aa2 : Option Addr) (na2 : Nat) (ca2 : Nat) (w : World) (Q : Ending → World → Prop) (h : wp Aa0 na0 ca0 Aa1 na1 ca1 Aa2 na2 ca2 w Q) : Calls Try.prog 5 #[.slice Aa0 na0 ca0, .slice Aa1 na1 ca1, .slice Aa2 na2 ca2] w Q := by
  rw [wp_eq] at h
  exact calls_of_codeW (c := body) (rs := [.tmp 6]) Try.func5 (by kernel_rfl) (by kernel_rfl) (by kernel_rfl) (by kernel_rfl) (by kernel_rfl) (tab_snd (by
    intro x hx
    simp only [tb, List.mem_cons, List.not_mem_nil, or_false] at hx
    subst hx
    exact l0_snd)) (by kernel_rfl) h
end f_law02_CrcAdds
namespace f_law02_CrcBehind
/-! skein/skeinlaw02.CrcBehind: function 6 -/
noncomputable def body : Code := (Try.f6.body).getD .skip
def od4 : OD := ⟨[0, 1, 2, 3, 9, 10], [2, 5, 6, 7, 10, 13, 14, 15, 19, 22, 23, 24, 27, 30, 31, 32], fun i => ([⟨false, [], [], fun ps vs => match ps, vs with | [.slice Ap0 np0 cp0, .slice Ap1 np1 cp1, .slice Ap2 np2 cp2, .slice Ap3 np3 cp3, .int _ xp9, .int _ xp10], [] => .slice Ap0 np0 cp0 | _, _ => undef⟩,
  ⟨false, [], [], fun ps vs => match ps, vs with | [.slice Ap0 np0 cp0, .slice Ap1 np1 cp1, .slice Ap2 np2 cp2, .slice Ap3 np3 cp3, .int _ xp9, .int _ xp10], [] => .int .i64 xp9 | _, _ => undef⟩,
  ⟨true, [], [0, 1], fun _ _ => undef⟩,
  ⟨false, [], [], fun ps vs => match ps, vs with | [.slice Ap0 np0 cp0, .slice Ap1 np1 cp1, .slice Ap2 np2 cp2, .slice Ap3 np3 cp3, .int _ xp9, .int _ xp10], [] => .slice Ap2 np2 cp2 | _, _ => undef⟩,
  ⟨false, [], [], fun ps vs => match ps, vs with | [.slice Ap0 np0 cp0, .slice Ap1 np1 cp1, .slice Ap2 np2 cp2, .slice Ap3 np3 cp3, .int _ xp9, .int _ xp10], [] => .int .i64 xp10 | _, _ => undef⟩,
  ⟨true, [], [3, 4], fun _ _ => undef⟩,
  ⟨true, [2, 5], [2, 5], fun _ _ => undef⟩,
  ⟨true, [2, 5, 6], [6], fun _ _ => undef⟩,
  ⟨false, [], [], fun ps vs => match ps, vs with | [.slice Ap0 np0 cp0, .slice Ap1 np1 cp1, .slice Ap2 np2 cp2, .slice Ap3 np3 cp3, .int _ xp9, .int _ xp10], [] => .slice Ap1 np1 cp1 | _, _ => undef⟩,
  ⟨false, [], [], fun ps vs => match ps, vs with | [.slice Ap0 np0 cp0, .slice Ap1 np1 cp1, .slice Ap2 np2 cp2, .slice Ap3 np3 cp3, .int _ xp9, .int _ xp10], [] => .int .i64 xp9 | _, _ => undef⟩,
  ⟨true, [], [8, 9], fun _ _ => undef⟩,
  ⟨false, [], [], fun ps vs => match ps, vs with | [.slice Ap0 np0 cp0, .slice Ap1 np1 cp1, .slice Ap2 np2 cp2, .slice Ap3 np3 cp3, .int _ xp9, .int _ xp10], [] => .slice Ap2 np2 cp2 | _, _ => undef⟩,
  ⟨false, [], [], fun ps vs => match ps, vs with | [.slice Ap0 np0 cp0, .slice Ap1 np1 cp1, .slice Ap2 np2 cp2, .slice Ap3 np3 cp3, .int _ xp9, .int _ xp10], [] => .int .i64 xp10 | _, _ => undef⟩,
  ⟨true, [], [11, 12], fun _ _ => undef⟩,
  ⟨true, [10, 13], [10, 13], fun _ _ => undef⟩,
  ⟨true, [2, 5, 6, 7, 10, 13, 14], [14], fun _ _ => undef⟩,
  ⟨false, [2, 5, 6, 7, 10, 13, 14, 15], [7, 15], fun ps vs => match ps, vs with | [.slice Ap0 np0 cp0, .slice Ap1 np1 cp1, .slice Ap2 np2 cp2, .slice Ap3 np3 cp3, .int _ xp9, .int _ xp10], [.slice Ae2 ne2 ce2, .slice Ae5 ne5 ce5, .slice Ae6 ne6 ce6, .int _ xe7, .slice Ae10 ne10 ce10, .slice Ae13 ne13 ce13, .slice Ae14 ne14 ce14, .int _ xe15] => .int .u32 (bxor .u32 xe7 xe15) | _, _ => undef⟩,
  ⟨false, [], [], fun ps vs => match ps, vs with | [.slice Ap0 np0 cp0, .slice Ap1 np1 cp1, .slice Ap2 np2 cp2, .slice Ap3 np3 cp3, .int _ xp9, .int _ xp10], [] => .slice Ap0 np0 cp0 | _, _ => undef⟩,
  ⟨false, [], [], fun ps vs => match ps, vs with | [.slice Ap0 np0 cp0, .slice Ap1 np1 cp1, .slice Ap2 np2 cp2, .slice Ap3 np3 cp3, .int _ xp9, .int _ xp10], [] => .int .i64 xp9 | _, _ => undef⟩,
  ⟨true, [], [17, 18], fun _ _ => undef⟩,
  ⟨false, [], [], fun ps vs => match ps, vs with | [.slice Ap0 np0 cp0, .slice Ap1 np1 cp1, .slice Ap2 np2 cp2, .slice Ap3 np3 cp3, .int _ xp9, .int _ xp10], [] => .slice Ap3 np3 cp3 | _, _ => undef⟩,
  ⟨false, [], [], fun ps vs => match ps, vs with | [.slice Ap0 np0 cp0, .slice Ap1 np1 cp1, .slice Ap2 np2 cp2, .slice Ap3 np3 cp3, .int _ xp9, .int _ xp10], [] => .int .i64 xp10 | _, _ => undef⟩,
  ⟨true, [], [20, 21], fun _ _ => undef⟩,
  ⟨true, [19, 22], [19, 22], fun _ _ => undef⟩,
  ⟨true, [2, 5, 6, 7, 10, 13, 14, 15, 19, 22, 23], [23], fun _ _ => undef⟩,
  ⟨false, [], [], fun ps vs => match ps, vs with | [.slice Ap0 np0 cp0, .slice Ap1 np1 cp1, .slice Ap2 np2 cp2, .slice Ap3 np3 cp3, .int _ xp9, .int _ xp10], [] => .slice Ap1 np1 cp1 | _, _ => undef⟩,
  ⟨false, [], [], fun ps vs => match ps, vs with | [.slice Ap0 np0 cp0, .slice Ap1 np1 cp1, .slice Ap2 np2 cp2, .slice Ap3 np3 cp3, .int _ xp9, .int _ xp10], [] => .int .i64 xp9 | _, _ => undef⟩,
  ⟨true, [], [25, 26], fun _ _ => undef⟩,
  ⟨false, [], [], fun ps vs => match ps, vs with | [.slice Ap0 np0 cp0, .slice Ap1 np1 cp1, .slice Ap2 np2 cp2, .slice Ap3 np3 cp3, .int _ xp9, .int _ xp10], [] => .slice Ap3 np3 cp3 | _, _ => undef⟩,
  ⟨false, [], [], fun ps vs => match ps, vs with | [.slice Ap0 np0 cp0, .slice Ap1 np1 cp1, .slice Ap2 np2 cp2, .slice Ap3 np3 cp3, .int _ xp9, .int _ xp10], [] => .int .i64 xp10 | _, _ => undef⟩,
  ⟨true, [], [28, 29], fun _ _ => undef⟩,
  ⟨true, [27, 30], [27, 30], fun _ _ => undef⟩,
  ⟨true, [2, 5, 6, 7, 10, 13, 14, 15, 19, 22, 23, 24, 27, 30, 31], [31], fun _ _ => undef⟩,
  ⟨false, [2, 5, 6, 7, 10, 13, 14, 15, 19, 22, 23, 24, 27, 30, 31, 32], [24, 32], fun ps vs => match ps, vs with | [.slice Ap0 np0 cp0, .slice Ap1 np1 cp1, .slice Ap2 np2 cp2, .slice Ap3 np3 cp3, .int _ xp9, .int _ xp10], [.slice Ae2 ne2 ce2, .slice Ae5 ne5 ce5, .slice Ae6 ne6 ce6, .int _ xe7, .slice Ae10 ne10 ce10, .slice Ae13 ne13 ce13, .slice Ae14 ne14 ce14, .int _ xe15, .slice Ae19 ne19 ce19, .slice Ae22 ne22 ce22, .slice Ae23 ne23 ce23, .int _ xe24, .slice Ae27 ne27 ce27, .slice Ae30 ne30 ce30, .slice Ae31 ne31 ce31, .int _ xe32] => .int .u32 (bxor .u32 xe24 xe32) | _, _ => undef⟩,
  ⟨false, [2, 5, 6, 7, 10, 13, 14, 15, 19, 22, 23, 24, 27, 30, 31, 32], [16, 33], fun ps vs => match ps, vs with | [.slice Ap0 np0 cp0, .slice Ap1 np1 cp1, .slice Ap2 np2 cp2, .slice Ap3 np3 cp3, .int _ xp9, .int _ xp10], [.slice Ae2 ne2 ce2, .slice Ae5 ne5 ce5, .slice Ae6 ne6 ce6, .int _ xe7, .slice Ae10 ne10 ce10, .slice Ae13 ne13 ce13, .slice Ae14 ne14 ce14, .int _ xe15, .slice Ae19 ne19 ce19, .slice Ae22 ne22 ce22, .slice Ae23 ne23 ce23, .int _ xe24, .slice Ae27 ne27 ce27, .slice Ae30 ne30 ce30, .slice Ae31 ne31 ce31, .int _ xe32] => .bool ((bxor .u32 xe7 xe15) == (bxor .u32 xe24 xe32)) | _, _ => undef⟩,
  ⟨false, [2, 5, 6, 7, 10, 13, 14, 15, 19, 22, 23, 24, 27, 30, 31, 32], [34], fun ps vs => match ps, vs with | [.slice Ap0 np0 cp0, .slice Ap1 np1 cp1, .slice Ap2 np2 cp2, .slice Ap3 np3 cp3, .int _ xp9, .int _ xp10], [.slice Ae2 ne2 ce2, .slice Ae5 ne5 ce5, .slice Ae6 ne6 ce6, .int _ xe7, .slice Ae10 ne10 ce10, .slice Ae13 ne13 ce13, .slice Ae14 ne14 ce14, .int _ xe15, .slice Ae19 ne19 ce19, .slice Ae22 ne22 ce22, .slice Ae23 ne23 ce23, .int _ xe24, .slice Ae27 ne27 ce27, .slice Ae30 ne30 ce30, .slice Ae31 ne31 ce31, .int _ xe32] => .bool ((bxor .u32 xe7 xe15) == (bxor .u32 xe24 xe32)) | _, _ => undef⟩] : List OI).getD i ⟨true, [], [], fun _ _ => undef⟩, fun i => ([.one (.sc .any), .one (.sc .any), (.one (.sc .slice)), .one (.sc .any), .one (.sc .any), (.one (.sc .slice)), (.one (.sc .slice)), (.one (.sc (.int .u32))), .one (.sc .any), .one (.sc .any), (.one (.sc .slice)), .one (.sc .any), .one (.sc .any), (.one (.sc .slice)), (.one (.sc .slice)), (.one (.sc (.int .u32))), .one (.sc .any), .one (.sc .any), .one (.sc .any), (.one (.sc .slice)), .one (.sc .any), .one (.sc .any), (.one (.sc .slice)), (.one (.sc .slice)), (.one (.sc (.int .u32))), .one (.sc .any), .one (.sc .any), (.one (.sc .slice)), .one (.sc .any), .one (.sc .any), (.one (.sc .slice)), (.one (.sc .slice)), (.one (.sc (.int .u32))), .one (.sc .any), .one (.sc .any), .one (.sc .any)] : List OS).getD i (.one (.sc .any))⟩
def h4 (Ap0 : Option Addr) (np0 : Nat) (cp0 : Nat) (Ap1 : Option Addr) (np1 : Nat) (cp1 : Nat) (Ap2 : Option Addr) (np2 : Nat) (cp2 : Nat) (Ap3 : Option Addr) (np3 : Nat) (cp3 : Nat) (xp9 : Int) (xp10 : Int) : Prop :=
  (∀ (_ : Fr) (w : World),
  w = w ∧ (.slice Ap0 np0 cp0 : Value) = (.slice Ap0 np0 cp0)) ∧
  (∀ (_ : Fr) (w : World),
  w = w ∧ (.int .i64 xp9 : Value) = (.int .i64 xp9)) ∧
  (∀ (_ : Fr) (w : World),
  w = w ∧ (.slice Ap2 np2 cp2 : Value) = (.slice Ap2 np2 cp2)) ∧
  (∀ (_ : Fr) (w : World),
  w = w ∧ (.int .i64 xp10 : Value) = (.int .i64 xp10)) ∧
  (∀ (_ : Fr) (w : World),
  w = w ∧ (.slice Ap1 np1 cp1 : Value) = (.slice Ap1 np1 cp1)) ∧
  (∀ (_ : Fr) (w : World),
  w = w ∧ (.int .i64 xp9 : Value) = (.int .i64 xp9)) ∧
  (∀ (_ : Fr) (w : World),
  w = w ∧ (.slice Ap2 np2 cp2 : Value) = (.slice Ap2 np2 cp2)) ∧
  (∀ (_ : Fr) (w : World),
  w = w ∧ (.int .i64 xp10 : Value) = (.int .i64 xp10)) ∧
  (∀ (_ : Fr) (w : World),
  ∀ (Ae2 : Option Addr) (ne2 : Nat) (ce2 : Nat),
  ∀ (Ae5 : Option Addr) (ne5 : Nat) (ce5 : Nat),
  ∀ (Ae6 : Option Addr) (ne6 : Nat) (ce6 : Nat),
  ∀ (xe7 : Int),
  ∀ (Ae10 : Option Addr) (ne10 : Nat) (ce10 : Nat),
  ∀ (Ae13 : Option Addr) (ne13 : Nat) (ce13 : Nat),
  ∀ (Ae14 : Option Addr) (ne14 : Nat) (ce14 : Nat),
  ∀ (xe15 : Int),
  w = w ∧ (.int .u32 (bxor .u32 xe7 xe15) : Value) = (.int .u32 (bxor .u32 xe7 xe15))) ∧
  (∀ (_ : Fr) (w : World),
  w = w ∧ (.slice Ap0 np0 cp0 : Value) = (.slice Ap0 np0 cp0)) ∧
  (∀ (_ : Fr) (w : World),
  w = w ∧ (.int .i64 xp9 : Value) = (.int .i64 xp9)) ∧
  (∀ (_ : Fr) (w : World),
  w = w ∧ (.slice Ap3 np3 cp3 : Value) = (.slice Ap3 np3 cp3)) ∧
  (∀ (_ : Fr) (w : World),
  w = w ∧ (.int .i64 xp10 : Value) = (.int .i64 xp10)) ∧
  (∀ (_ : Fr) (w : World),
  w = w ∧ (.slice Ap1 np1 cp1 : Value) = (.slice Ap1 np1 cp1)) ∧
  (∀ (_ : Fr) (w : World),
  w = w ∧ (.int .i64 xp9 : Value) = (.int .i64 xp9)) ∧
  (∀ (_ : Fr) (w : World),
  w = w ∧ (.slice Ap3 np3 cp3 : Value) = (.slice Ap3 np3 cp3)) ∧
  (∀ (_ : Fr) (w : World),
  w = w ∧ (.int .i64 xp10 : Value) = (.int .i64 xp10)) ∧
  (∀ (_ : Fr) (w : World),
  ∀ (Ae2 : Option Addr) (ne2 : Nat) (ce2 : Nat),
  ∀ (Ae5 : Option Addr) (ne5 : Nat) (ce5 : Nat),
  ∀ (Ae6 : Option Addr) (ne6 : Nat) (ce6 : Nat),
  ∀ (xe7 : Int),
  ∀ (Ae10 : Option Addr) (ne10 : Nat) (ce10 : Nat),
  ∀ (Ae13 : Option Addr) (ne13 : Nat) (ce13 : Nat),
  ∀ (Ae14 : Option Addr) (ne14 : Nat) (ce14 : Nat),
  ∀ (xe15 : Int),
  ∀ (Ae19 : Option Addr) (ne19 : Nat) (ce19 : Nat),
  ∀ (Ae22 : Option Addr) (ne22 : Nat) (ce22 : Nat),
  ∀ (Ae23 : Option Addr) (ne23 : Nat) (ce23 : Nat),
  ∀ (xe24 : Int),
  ∀ (Ae27 : Option Addr) (ne27 : Nat) (ce27 : Nat),
  ∀ (Ae30 : Option Addr) (ne30 : Nat) (ce30 : Nat),
  ∀ (Ae31 : Option Addr) (ne31 : Nat) (ce31 : Nat),
  ∀ (xe32 : Int),
  w = w ∧ (.int .u32 (bxor .u32 xe24 xe32) : Value) = (.int .u32 (bxor .u32 xe24 xe32))) ∧
  (∀ (_ : Fr) (w : World),
  ∀ (Ae2 : Option Addr) (ne2 : Nat) (ce2 : Nat),
  ∀ (Ae5 : Option Addr) (ne5 : Nat) (ce5 : Nat),
  ∀ (Ae6 : Option Addr) (ne6 : Nat) (ce6 : Nat),
  ∀ (xe7 : Int),
  ∀ (Ae10 : Option Addr) (ne10 : Nat) (ce10 : Nat),
  ∀ (Ae13 : Option Addr) (ne13 : Nat) (ce13 : Nat),
  ∀ (Ae14 : Option Addr) (ne14 : Nat) (ce14 : Nat),
  ∀ (xe15 : Int),
  ∀ (Ae19 : Option Addr) (ne19 : Nat) (ce19 : Nat),
  ∀ (Ae22 : Option Addr) (ne22 : Nat) (ce22 : Nat),
  ∀ (Ae23 : Option Addr) (ne23 : Nat) (ce23 : Nat),
  ∀ (xe24 : Int),
  ∀ (Ae27 : Option Addr) (ne27 : Nat) (ce27 : Nat),
  ∀ (Ae30 : Option Addr) (ne30 : Nat) (ce30 : Nat),
  ∀ (Ae31 : Option Addr) (ne31 : Nat) (ce31 : Nat),
  ∀ (xe32 : Int),
  w = w ∧ (.bool ((bxor .u32 xe7 xe15) == (bxor .u32 xe24 xe32)) : Value) = (.bool ((bxor .u32 xe7 xe15) == (bxor .u32 xe24 xe32)))) ∧
  (∀ (_ : Fr) (w : World),
  ∀ (Ae2 : Option Addr) (ne2 : Nat) (ce2 : Nat),
  ∀ (Ae5 : Option Addr) (ne5 : Nat) (ce5 : Nat),
  ∀ (Ae6 : Option Addr) (ne6 : Nat) (ce6 : Nat),
  ∀ (xe7 : Int),
  ∀ (Ae10 : Option Addr) (ne10 : Nat) (ce10 : Nat),
  ∀ (Ae13 : Option Addr) (ne13 : Nat) (ce13 : Nat),
  ∀ (Ae14 : Option Addr) (ne14 : Nat) (ce14 : Nat),
  ∀ (xe15 : Int),
  ∀ (Ae19 : Option Addr) (ne19 : Nat) (ce19 : Nat),
  ∀ (Ae22 : Option Addr) (ne22 : Nat) (ce22 : Nat),
  ∀ (Ae23 : Option Addr) (ne23 : Nat) (ce23 : Nat),
  ∀ (xe24 : Int),
  ∀ (Ae27 : Option Addr) (ne27 : Nat) (ce27 : Nat),
  ∀ (Ae30 : Option Addr) (ne30 : Nat) (ce30 : Nat),
  ∀ (Ae31 : Option Addr) (ne31 : Nat) (ce31 : Nat),
  ∀ (xe32 : Int),
  w = w ∧ (.bool ((bxor .u32 xe7 xe15) == (bxor .u32 xe24 xe32)) : Value) = (.bool ((bxor .u32 xe7 xe15) == (bxor .u32 xe24 xe32)))) ∧
  True
theorem h4_ok (Ap0 : Option Addr) (np0 : Nat) (cp0 : Nat) (Ap1 : Option Addr) (np1 : Nat) (cp1 : Nat) (Ap2 : Option Addr) (np2 : Nat) (cp2 : Nat) (Ap3 : Option Addr) (np3 : Nat) (cp3 : Nat) (xp9 : Int) (xp10 : Int) : h4 Ap0 np0 cp0 Ap1 np1 cp1 Ap2 np2 cp2 Ap3 np3 cp3 xp9 xp10 := ⟨fun _ w => ⟨rfl, rfl⟩, fun _ w => ⟨rfl, rfl⟩, fun _ w => ⟨rfl, rfl⟩, fun _ w => ⟨rfl, rfl⟩, fun _ w => ⟨rfl, rfl⟩, fun _ w => ⟨rfl, rfl⟩, fun _ w => ⟨rfl, rfl⟩, fun _ w => ⟨rfl, rfl⟩, fun _ w _ _ _ _ _ _ _ _ _ _ _ _ _ _ _ _ _ _ _ _ => ⟨rfl, rfl⟩, fun _ w => ⟨rfl, rfl⟩, fun _ w => ⟨rfl, rfl⟩, fun _ w => ⟨rfl, rfl⟩, fun _ w => ⟨rfl, rfl⟩, fun _ w => ⟨rfl, rfl⟩, fun _ w => ⟨rfl, rfl⟩, fun _ w => ⟨rfl, rfl⟩, fun _ w => ⟨rfl, rfl⟩, fun _ w _ _ _ _ _ _ _ _ _ _ _ _ _ _ _ _ _ _ _ _ _ _ _ _ _ _ _ _ _ _ _ _ _ _ _ _ _ _ _ _ => ⟨rfl, rfl⟩, fun _ w _ _ _ _ _ _ _ _ _ _ _ _ _ _ _ _ _ _ _ _ _ _ _ _ _ _ _ _ _ _ _ _ _ _ _ _ _ _ _ _ => ⟨rfl, rfl⟩, fun _ w _ _ _ _ _ _ _ _ _ _ _ _ _ _ _ _ _ _ _ _ _ _ _ _ _ _ _ _ _ _ _ _ _ _ _ _ _ _ _ _ => ⟨rfl, rfl⟩, trivial⟩
def wp (Aa0 : Option Addr) (na0 : Nat) (ca0 : Nat) (Aa1 : Option Addr) (na1 : Nat) (ca1 : Nat) (Aa2 : Option Addr) (na2 : Nat) (ca2 : Nat) (Aa3 : Option Addr) (na3 : Nat) (ca3 : Nat) (w : World) (Q : Ending → World → Prop) : Prop :=
  Calls Try.prog 12 #[] w fun e1 w2 => ∃ (b3 : Bool), e1 = .returned (.bool b3) ∧ (
  sel (!b3) (
  Q (.returned (.bool false)) w2) (
  drW w2 fun w4 =>
  h4 Aa0 na0 ca0 Aa1 na1 ca1 Aa2 na2 ca2 Aa3 na3 ca3 (if (na1 : Int) < (na0 : Int) then (na1 : Int) else (na0 : Int)) (if (na3 : Int) < (na2 : Int) then (na3 : Int) else (na2 : Int)) ∧
  ∃ (G5 : World → World → Prop) (Φ6 : Nat → Value → World → Prop), (∀ w, G5 w w) ∧ (∀ a b c, G5 a b → G5 b c → G5 a c) ∧ (∀ i v a b, G5 w4 a → G5 a b → Φ6 i v a → Φ6 i v b) ∧ (
  (∀ (_ : Fr) (w7 : World), G5 w4 w7 →
  (
  req (decide (0 ≤ (if (na1 : Int) < (na0 : Int) then (na1 : Int) else (na0 : Int)) ∧ (if (na1 : Int) < (na0 : Int) then (na1 : Int) else (na0 : Int)) ≤ (ca0 : Int))) <|
  G5 w7 w7 ∧ Φ6 2 (.slice (slA Aa0 0 ca0 1) ((if (na1 : Int) < (na0 : Int) then (na1 : Int) else (na0 : Int)).toNat - 0) (ca0 - 0)) w7)) ∧
  (∀ (_ : Fr) (w8 : World), G5 w4 w8 →
  (
  req (decide (0 ≤ (if (na3 : Int) < (na2 : Int) then (na3 : Int) else (na2 : Int)) ∧ (if (na3 : Int) < (na2 : Int) then (na3 : Int) else (na2 : Int)) ≤ (ca2 : Int))) <|
  G5 w8 w8 ∧ Φ6 5 (.slice (slA Aa2 0 ca2 1) ((if (na3 : Int) < (na2 : Int) then (na3 : Int) else (na2 : Int)).toNat - 0) (ca2 - 0)) w8)) ∧
  (∀ (_ : Fr) (w9 : World), G5 w4 w9 →
  ∀ (Ae2 : Option Addr) (ne2 : Nat) (ce2 : Nat),
  Φ6 2 (.slice Ae2 ne2 ce2) w9 →
  ∀ (Ae5 : Option Addr) (ne5 : Nat) (ce5 : Nat),
  Φ6 5 (.slice Ae5 ne5 ce5) w9 →
  (
  alW w9 (.cells #[.slice Ae2 ne2 ce2, .slice Ae5 ne5 ce5] 22) fun B10 w11 =>
  G5 w9 w11 ∧ Φ6 6 (.slice (some (⟨B10, 0, Option.none⟩ : Addr)) 2 2) w11)) ∧
  (∀ (_ : Fr) (w12 : World), G5 w4 w12 →
  ∀ (Ae2 : Option Addr) (ne2 : Nat) (ce2 : Nat),
  Φ6 2 (.slice Ae2 ne2 ce2) w12 →
  ∀ (Ae5 : Option Addr) (ne5 : Nat) (ce5 : Nat),
  Φ6 5 (.slice Ae5 ne5 ce5) w12 →
  ∀ (Ae6 : Option Addr) (ne6 : Nat) (ce6 : Nat),
  Φ6 6 (.slice Ae6 ne6 ce6) w12 →
  (
  Calls Try.prog 15 #[.slice Ae6 ne6 ce6] w12 fun e13 w14 => ∃ (x15 : Int), e13 = .returned (.int .u32 x15) ∧ (
  G5 w12 w14 ∧ Φ6 7 (.int .u32 x15) w14))) ∧
  (∀ (_ : Fr) (w16 : World), G5 w4 w16 →
  (
  req (decide (0 ≤ (if (na1 : Int) < (na0 : Int) then (na1 : Int) else (na0 : Int)) ∧ (if (na1 : Int) < (na0 : Int) then (na1 : Int) else (na0 : Int)) ≤ (ca1 : Int))) <|
  G5 w16 w16 ∧ Φ6 10 (.slice (slA Aa1 0 ca1 1) ((if (na1 : Int) < (na0 : Int) then (na1 : Int) else (na0 : Int)).toNat - 0) (ca1 - 0)) w16)) ∧
  (∀ (_ : Fr) (w17 : World), G5 w4 w17 →
  (
  req (decide (0 ≤ (if (na3 : Int) < (na2 : Int) then (na3 : Int) else (na2 : Int)) ∧ (if (na3 : Int) < (na2 : Int) then (na3 : Int) else (na2 : Int)) ≤ (ca2 : Int))) <|
  G5 w17 w17 ∧ Φ6 13 (.slice (slA Aa2 0 ca2 1) ((if (na3 : Int) < (na2 : Int) then (na3 : Int) else (na2 : Int)).toNat - 0) (ca2 - 0)) w17)) ∧
  (∀ (_ : Fr) (w18 : World), G5 w4 w18 →
  ∀ (Ae10 : Option Addr) (ne10 : Nat) (ce10 : Nat),
  Φ6 10 (.slice Ae10 ne10 ce10) w18 →
  ∀ (Ae13 : Option Addr) (ne13 : Nat) (ce13 : Nat),
  Φ6 13 (.slice Ae13 ne13 ce13) w18 →
  (
  alW w18 (.cells #[.slice Ae10 ne10 ce10, .slice Ae13 ne13 ce13] 22) fun B19 w20 =>
  G5 w18 w20 ∧ Φ6 14 (.slice (some (⟨B19, 0, Option.none⟩ : Addr)) 2 2) w20)) ∧
  (∀ (_ : Fr) (w21 : World), G5 w4 w21 →
  ∀ (Ae2 : Option Addr) (ne2 : Nat) (ce2 : Nat),
  Φ6 2 (.slice Ae2 ne2 ce2) w21 →
  ∀ (Ae5 : Option Addr) (ne5 : Nat) (ce5 : Nat),
  Φ6 5 (.slice Ae5 ne5 ce5) w21 →
  ∀ (Ae6 : Option Addr) (ne6 : Nat) (ce6 : Nat),
  Φ6 6 (.slice Ae6 ne6 ce6) w21 →
  ∀ (xe7 : Int),
  Φ6 7 (.int .u32 xe7) w21 →
  ∀ (Ae10 : Option Addr) (ne10 : Nat) (ce10 : Nat),
  Φ6 10 (.slice Ae10 ne10 ce10) w21 →
  ∀ (Ae13 : Option Addr) (ne13 : Nat) (ce13 : Nat),
  Φ6 13 (.slice Ae13 ne13 ce13) w21 →
  ∀ (Ae14 : Option Addr) (ne14 : Nat) (ce14 : Nat),
  Φ6 14 (.slice Ae14 ne14 ce14) w21 →
  (
  Calls Try.prog 15 #[.slice Ae14 ne14 ce14] w21 fun e22 w23 => ∃ (x24 : Int), e22 = .returned (.int .u32 x24) ∧ (
  G5 w21 w23 ∧ Φ6 15 (.int .u32 x24) w23))) ∧
  (∀ (_ : Fr) (w25 : World), G5 w4 w25 →
  (
  req (decide (0 ≤ (if (na1 : Int) < (na0 : Int) then (na1 : Int) else (na0 : Int)) ∧ (if (na1 : Int) < (na0 : Int) then (na1 : Int) else (na0 : Int)) ≤ (ca0 : Int))) <|
  G5 w25 w25 ∧ Φ6 19 (.slice (slA Aa0 0 ca0 1) ((if (na1 : Int) < (na0 : Int) then (na1 : Int) else (na0 : Int)).toNat - 0) (ca0 - 0)) w25)) ∧
  (∀ (_ : Fr) (w26 : World), G5 w4 w26 →
  (
  req (decide (0 ≤ (if (na3 : Int) < (na2 : Int) then (na3 : Int) else (na2 : Int)) ∧ (if (na3 : Int) < (na2 : Int) then (na3 : Int) else (na2 : Int)) ≤ (ca3 : Int))) <|
  G5 w26 w26 ∧ Φ6 22 (.slice (slA Aa3 0 ca3 1) ((if (na3 : Int) < (na2 : Int) then (na3 : Int) else (na2 : Int)).toNat - 0) (ca3 - 0)) w26)) ∧
  (∀ (_ : Fr) (w27 : World), G5 w4 w27 →
  ∀ (Ae19 : Option Addr) (ne19 : Nat) (ce19 : Nat),
  Φ6 19 (.slice Ae19 ne19 ce19) w27 →
  ∀ (Ae22 : Option Addr) (ne22 : Nat) (ce22 : Nat),
  Φ6 22 (.slice Ae22 ne22 ce22) w27 →
  (
  alW w27 (.cells #[.slice Ae19 ne19 ce19, .slice Ae22 ne22 ce22] 22) fun B28 w29 =>
  G5 w27 w29 ∧ Φ6 23 (.slice (some (⟨B28, 0, Option.none⟩ : Addr)) 2 2) w29)) ∧
  (∀ (_ : Fr) (w30 : World), G5 w4 w30 →
  ∀ (Ae2 : Option Addr) (ne2 : Nat) (ce2 : Nat),
  Φ6 2 (.slice Ae2 ne2 ce2) w30 →
  ∀ (Ae5 : Option Addr) (ne5 : Nat) (ce5 : Nat),
  Φ6 5 (.slice Ae5 ne5 ce5) w30 →
  ∀ (Ae6 : Option Addr) (ne6 : Nat) (ce6 : Nat),
  Φ6 6 (.slice Ae6 ne6 ce6) w30 →
  ∀ (xe7 : Int),
  Φ6 7 (.int .u32 xe7) w30 →
  ∀ (Ae10 : Option Addr) (ne10 : Nat) (ce10 : Nat),
  Φ6 10 (.slice Ae10 ne10 ce10) w30 →
  ∀ (Ae13 : Option Addr) (ne13 : Nat) (ce13 : Nat),
  Φ6 13 (.slice Ae13 ne13 ce13) w30 →
  ∀ (Ae14 : Option Addr) (ne14 : Nat) (ce14 : Nat),
  Φ6 14 (.slice Ae14 ne14 ce14) w30 →
  ∀ (xe15 : Int),
  Φ6 15 (.int .u32 xe15) w30 →
  ∀ (Ae19 : Option Addr) (ne19 : Nat) (ce19 : Nat),
  Φ6 19 (.slice Ae19 ne19 ce19) w30 →
  ∀ (Ae22 : Option Addr) (ne22 : Nat) (ce22 : Nat),
  Φ6 22 (.slice Ae22 ne22 ce22) w30 →
  ∀ (Ae23 : Option Addr) (ne23 : Nat) (ce23 : Nat),
  Φ6 23 (.slice Ae23 ne23 ce23) w30 →
  (
  Calls Try.prog 15 #[.slice Ae23 ne23 ce23] w30 fun e31 w32 => ∃ (x33 : Int), e31 = .returned (.int .u32 x33) ∧ (
  G5 w30 w32 ∧ Φ6 24 (.int .u32 x33) w32))) ∧
  (∀ (_ : Fr) (w34 : World), G5 w4 w34 →
  (
  req (decide (0 ≤ (if (na1 : Int) < (na0 : Int) then (na1 : Int) else (na0 : Int)) ∧ (if (na1 : Int) < (na0 : Int) then (na1 : Int) else (na0 : Int)) ≤ (ca1 : Int))) <|
  G5 w34 w34 ∧ Φ6 27 (.slice (slA Aa1 0 ca1 1) ((if (na1 : Int) < (na0 : Int) then (na1 : Int) else (na0 : Int)).toNat - 0) (ca1 - 0)) w34)) ∧
  (∀ (_ : Fr) (w35 : World), G5 w4 w35 →
  (
  req (decide (0 ≤ (if (na3 : Int) < (na2 : Int) then (na3 : Int) else (na2 : Int)) ∧ (if (na3 : Int) < (na2 : Int) then (na3 : Int) else (na2 : Int)) ≤ (ca3 : Int))) <|
  G5 w35 w35 ∧ Φ6 30 (.slice (slA Aa3 0 ca3 1) ((if (na3 : Int) < (na2 : Int) then (na3 : Int) else (na2 : Int)).toNat - 0) (ca3 - 0)) w35)) ∧
  (∀ (_ : Fr) (w36 : World), G5 w4 w36 →
  ∀ (Ae27 : Option Addr) (ne27 : Nat) (ce27 : Nat),
  Φ6 27 (.slice Ae27 ne27 ce27) w36 →
  ∀ (Ae30 : Option Addr) (ne30 : Nat) (ce30 : Nat),
  Φ6 30 (.slice Ae30 ne30 ce30) w36 →
  (
  alW w36 (.cells #[.slice Ae27 ne27 ce27, .slice Ae30 ne30 ce30] 22) fun B37 w38 =>
  G5 w36 w38 ∧ Φ6 31 (.slice (some (⟨B37, 0, Option.none⟩ : Addr)) 2 2) w38)) ∧
  (∀ (_ : Fr) (w39 : World), G5 w4 w39 →
  ∀ (Ae2 : Option Addr) (ne2 : Nat) (ce2 : Nat),
  Φ6 2 (.slice Ae2 ne2 ce2) w39 →
  ∀ (Ae5 : Option Addr) (ne5 : Nat) (ce5 : Nat),
  Φ6 5 (.slice Ae5 ne5 ce5) w39 →
  ∀ (Ae6 : Option Addr) (ne6 : Nat) (ce6 : Nat),
  Φ6 6 (.slice Ae6 ne6 ce6) w39 →
  ∀ (xe7 : Int),
  Φ6 7 (.int .u32 xe7) w39 →
  ∀ (Ae10 : Option Addr) (ne10 : Nat) (ce10 : Nat),
  Φ6 10 (.slice Ae10 ne10 ce10) w39 →
  ∀ (Ae13 : Option Addr) (ne13 : Nat) (ce13 : Nat),
  Φ6 13 (.slice Ae13 ne13 ce13) w39 →
  ∀ (Ae14 : Option Addr) (ne14 : Nat) (ce14 : Nat),
  Φ6 14 (.slice Ae14 ne14 ce14) w39 →
  ∀ (xe15 : Int),
  Φ6 15 (.int .u32 xe15) w39 →
  ∀ (Ae19 : Option Addr) (ne19 : Nat) (ce19 : Nat),
  Φ6 19 (.slice Ae19 ne19 ce19) w39 →
  ∀ (Ae22 : Option Addr) (ne22 : Nat) (ce22 : Nat),
  Φ6 22 (.slice Ae22 ne22 ce22) w39 →
  ∀ (Ae23 : Option Addr) (ne23 : Nat) (ce23 : Nat),
  Φ6 23 (.slice Ae23 ne23 ce23) w39 →
  ∀ (xe24 : Int),
  Φ6 24 (.int .u32 xe24) w39 →
  ∀ (Ae27 : Option Addr) (ne27 : Nat) (ce27 : Nat),
  Φ6 27 (.slice Ae27 ne27 ce27) w39 →
  ∀ (Ae30 : Option Addr) (ne30 : Nat) (ce30 : Nat),
  Φ6 30 (.slice Ae30 ne30 ce30) w39 →
  ∀ (Ae31 : Option Addr) (ne31 : Nat) (ce31 : Nat),
  Φ6 31 (.slice Ae31 ne31 ce31) w39 →
  (
  Calls Try.prog 15 #[.slice Ae31 ne31 ce31] w39 fun e40 w41 => ∃ (x42 : Int), e40 = .returned (.int .u32 x42) ∧ (
  G5 w39 w41 ∧ Φ6 32 (.int .u32 x42) w41))) ∧ True) ∧
  ∀ w43, G5 w4 w43 →
  ∀ (Ae2 : Option Addr) (ne2 : Nat) (ce2 : Nat),
  Φ6 2 (.slice Ae2 ne2 ce2) w43 →
  ∀ (Ae5 : Option Addr) (ne5 : Nat) (ce5 : Nat),
  Φ6 5 (.slice Ae5 ne5 ce5) w43 →
  ∀ (Ae6 : Option Addr) (ne6 : Nat) (ce6 : Nat),
  Φ6 6 (.slice Ae6 ne6 ce6) w43 →
  ∀ (xe7 : Int),
  Φ6 7 (.int .u32 xe7) w43 →
  ∀ (Ae10 : Option Addr) (ne10 : Nat) (ce10 : Nat),
  Φ6 10 (.slice Ae10 ne10 ce10) w43 →
  ∀ (Ae13 : Option Addr) (ne13 : Nat) (ce13 : Nat),
  Φ6 13 (.slice Ae13 ne13 ce13) w43 →
  ∀ (Ae14 : Option Addr) (ne14 : Nat) (ce14 : Nat),
  Φ6 14 (.slice Ae14 ne14 ce14) w43 →
  ∀ (xe15 : Int),
  Φ6 15 (.int .u32 xe15) w43 →
  ∀ (Ae19 : Option Addr) (ne19 : Nat) (ce19 : Nat),
  Φ6 19 (.slice Ae19 ne19 ce19) w43 →
  ∀ (Ae22 : Option Addr) (ne22 : Nat) (ce22 : Nat),
  Φ6 22 (.slice Ae22 ne22 ce22) w43 →
  ∀ (Ae23 : Option Addr) (ne23 : Nat) (ce23 : Nat),
  Φ6 23 (.slice Ae23 ne23 ce23) w43 →
  ∀ (xe24 : Int),
  Φ6 24 (.int .u32 xe24) w43 →
  ∀ (Ae27 : Option Addr) (ne27 : Nat) (ce27 : Nat),
  Φ6 27 (.slice Ae27 ne27 ce27) w43 →
  ∀ (Ae30 : Option Addr) (ne30 : Nat) (ce30 : Nat),
  Φ6 30 (.slice Ae30 ne30 ce30) w43 →
  ∀ (Ae31 : Option Addr) (ne31 : Nat) (ce31 : Nat),
  Φ6 31 (.slice Ae31 ne31 ce31) w43 →
  ∀ (xe32 : Int),
  Φ6 32 (.int .u32 xe32) w43 →
  (
  Q (.returned (.bool ((bxor .u32 xe7 xe15) == (bxor .u32 xe24 xe32)))) w43)))
def D : Nat → Option DH := dtab [(4, .opn od4)]
def tb : List (List Nat × Spec) := []
theorem wp_eq (Aa0 : Option Addr) (na0 : Nat) (ca0 : Nat) (Aa1 : Option Addr) (na1 : Nat) (ca1 : Nat) (Aa2 : Option Addr) (na2 : Nat) (ca2 : Nat) (Aa3 : Option Addr) (na3 : Nat) (ca3 : Nat) (w : World) (Q : Ending → World → Prop) :
    wp Aa0 na0 ca0 Aa1 na1 ca1 Aa2 na2 ca2 Aa3 na3 ca3 w Q = codeW Try.prog hT 58 D (tab tb) [] body (topQ Try.prog hT 58 [.tmp 8] Q) (argsF [.slice Aa0 na0 ca0, .slice Aa1 na1 ca1, .slice Aa2 na2 ca2, .slice Aa3 na3 ca3]) w := by kernel_rfl
theorem ok (Aa0 : Option Addr) (na0 : Nat) (ca0 : Nat) (Aa1 : Option Addr) (na1 : Nat) (ca1 : Nat) (Aa2 : Option Addr) (na2 : Nat) (ca2 : Nat) (Aa3 : Option Addr) (na3 : Nat) (ca3 : Nat) (w : World) (Q : Ending → World → Prop) (h : wp Aa0 na0 ca0 Aa1 na1 ca1 Aa2 na2 ca2 Aa3 na3 ca3 w Q) : Calls Try.prog 6 #[.slice Aa0 na0 ca0, .slice Aa1 na1 ca1, .slice Aa2 na2 ca2, .slice Aa3 na3 ca3] w Q := by
  rw [wp_eq] at h
  exact calls_of_codeW (c := body) (rs := [.tmp 8]) Try.func6 (by kernel_rfl) (by kernel_rfl) (by kernel_rfl) (by kernel_rfl) (by kernel_rfl) (tab_snd (by
    intro x hx
    simp only [tb, List.not_mem_nil] at hx
    )) (by kernel_rfl) h
end f_law02_CrcBehind
namespace f_law01_NumPuts
/-! skein/skeinlaw01.NumPuts: function 7 -/
noncomputable def body : Code := (Try.f7.body).getD .skip
def wp (xa0 : Int) (xa1 : Int) (Aa2 : Option Addr) (na2 : Nat) (ca2 : Nat) (w : World) (Q : Ending → World → Prop) : Prop :=
  Calls Try.prog 22 #[] w fun e1 w2 => ∃ (b3 : Bool), e1 = .returned (.bool b3) ∧ (
  sel (!b3) (
  Q (.returned (.bool false)) w2) (
  Calls Try.prog 13 #[.slice Aa2 na2 ca2] w2 fun e4 w5 => ∃ (A6 : Option Addr) (n6 : Nat) (c6 : Nat), e4 = .returned (.slice A6 n6 c6) ∧ (
  drW w5 fun w7 =>
  req (decide (0 ≤ (na2 : Int) ∧ (na2 : Int) ≤ (c6 : Int))) <|
  req (decide (0 ≤ (na2 : Int) ∧ (na2 : Int) ≤ (c6 : Int))) <|
  Calls Try.prog 23 #[.slice (slA A6 0 c6 1) ((na2 : Int).toNat - 0) (c6 - 0)] w7 fun e9 w10 => ∃ (A11 : Option Addr) (n11 : Nat) (c11 : Nat), e9 = .returned (.slice A11 n11 c11) ∧ (
  Calls Try.prog 23 #[.slice (slA A6 0 c6 1) ((na2 : Int).toNat - 0) (c6 - 0)] w10 fun e12 w13 => ∃ (A14 : Option Addr) (n14 : Nat) (c14 : Nat), e12 = .returned (.slice A14 n14 c14) ∧ (
  Calls Try.prog 24 #[.slice Aa2 na2 ca2] w13 fun e15 w16 => ∃ (A17 : Option Addr) (n17 : Nat) (c17 : Nat), e15 = .returned (.slice A17 n17 c17) ∧ (
  Calls Try.prog 17 #[.slice A11 n11 c11, .slice A14 n14 c14, .slice A17 n17 c17] w16 fun e18 w19 => ∃ (b20 : Bool), e18 = .returned (.bool b20) ∧ (
  sel (!b20) (
  Q (.returned (.bool false)) w19) (
  Calls Try.prog 16 #[.slice A6 n6 c6, .slice Aa2 na2 ca2] w19 fun e21 w22 => ∃ (b23 : Bool), e21 = .returned (.bool b23) ∧ (
  sel (!b23) (
  Q (.returned (.bool false)) w22) (
  Calls Try.prog 25 #[.int .u64 xa0] w22 fun e24 w25 => ∃ (A26 : Option Addr) (n26 : Nat) (c26 : Nat), e24 = .returned (.slice A26 n26 c26) ∧ (
  Calls Try.prog 25 #[.int .u64 xa0] w25 fun e27 w28 => ∃ (A29 : Option Addr) (n29 : Nat) (c29 : Nat), e27 = .returned (.slice A29 n29 c29) ∧ (
  Calls Try.prog 26 #[.int .u64 xa0] w28 fun e30 w31 => ∃ (A32 : Option Addr) (n32 : Nat) (c32 : Nat), e30 = .returned (.slice A32 n32 c32) ∧ (
  Calls Try.prog 17 #[.slice A26 n26 c26, .slice A29 n29 c29, .slice A32 n32 c32] w31 fun e33 w34 => ∃ (b35 : Bool), e33 = .returned (.bool b35) ∧ (
  sel b35 (
  Calls Try.prog 27 #[.int .i64 xa1] w34 fun e36 w37 => ∃ (A38 : Option Addr) (n38 : Nat) (c38 : Nat), e36 = .returned (.slice A38 n38 c38) ∧ (
  Calls Try.prog 27 #[.int .i64 xa1] w37 fun e39 w40 => ∃ (A41 : Option Addr) (n41 : Nat) (c41 : Nat), e39 = .returned (.slice A41 n41 c41) ∧ (
  Calls Try.prog 28 #[.int .i64 xa1] w40 fun e42 w43 => ∃ (x44 : Int), e42 = .returned (.int .u64 x44) ∧ (
  Calls Try.prog 26 #[.int .u64 x44] w43 fun e45 w46 => ∃ (A47 : Option Addr) (n47 : Nat) (c47 : Nat), e45 = .returned (.slice A47 n47 c47) ∧ (
  Calls Try.prog 17 #[.slice A38 n38 c38, .slice A41 n41 c41, .slice A47 n47 c47] w46 fun e48 w49 => ∃ (b50 : Bool), e48 = .returned (.bool b50) ∧ (
  Q (.returned (.bool b50)) w49)))))) (
  Q (.returned (.bool false)) w34)))))))))))))))
def D : Nat → Option DH := dtab [(4, .simple [] [.fst 0, .fst 1, .fst 2, .fst 3, .fst 5, .fst 6, .fst 7, .fst 8, .fst 10, .eff 4, .eff 9, .eff 11, .eff 12, .fst 13, .fst 14, .fst 15, .fst 16, .eff 17, .fst 18, .fst 19])]
def tb : List (List Nat × Spec) := []
theorem wp_eq (xa0 : Int) (xa1 : Int) (Aa2 : Option Addr) (na2 : Nat) (ca2 : Nat) (w : World) (Q : Ending → World → Prop) :
    wp xa0 xa1 Aa2 na2 ca2 w Q = codeW Try.prog hT 49 D (tab tb) [] body (topQ Try.prog hT 49 [.tmp 6] Q) (argsF [.int .u64 xa0, .int .i64 xa1, .slice Aa2 na2 ca2]) w := by kernel_rfl
theorem ok (xa0 : Int) (xa1 : Int) (Aa2 : Option Addr) (na2 : Nat) (ca2 : Nat) (w : World) (Q : Ending → World → Prop) (h : wp xa0 xa1 Aa2 na2 ca2 w Q) : Calls Try.prog 7 #[.int .u64 xa0, .int .i64 xa1, .slice Aa2 na2 ca2] w Q := by
  rw [wp_eq] at h
  exact calls_of_codeW (c := body) (rs := [.tmp 6]) Try.func7 (by kernel_rfl) (by kernel_rfl) (by kernel_rfl) (by kernel_rfl) (by kernel_rfl) (tab_snd (by
    intro x hx
    simp only [tb, List.not_mem_nil] at hx
    )) (by kernel_rfl) h
end f_law01_NumPuts
namespace f_law01_NumGets
/-! skein/skeinlaw01.NumGets: function 8 -/
noncomputable def body : Code := (Try.f8.body).getD .skip
def j0 (At0 : Option Addr) (nt0 : Nat) (ct0 : Nat) (xt1 : Int) (xt2 : Int) (At7 : Option Addr) (nt7 : Nat) (ct7 : Nat) (xt8 : Int) (xt9 : Int) (xt10 : Int) (xt11 : Int) (xt12 : Int) (xt13 : Int) (At14 : Option Addr) (nt14 : Nat) (ct14 : Nat) (xt15 : Int) (xt16 : Int) (At17 : Option Addr) (nt17 : Nat) (ct17 : Nat) (xt20 : Int) (xt21 : Int) (xt22 : Int) (w : World) (Kr : Bool → World → Prop) : Prop :=
  Calls Try.prog 33 #[.slice At0 nt0 ct0, .int .i64 xt1] w fun e22 w23 => ∃ (x24_0 : Int) (x24_1 : Int) (x24_2 : Int), e22 = .returned (.tuple #[.int .i64 x24_0, .int .i64 x24_1, .int .i64 x24_2]) ∧ (
  Calls Try.prog 34 #[.slice At0 nt0 ct0, .int .i64 xt1, .int .i64 xt2] w23 fun e25 w26 => ∃ (A27_0 : Option Addr) (n27_0 : Nat) (c27_0 : Nat) (x27_1 : Int) (x27_2 : Int), e25 = .returned (.tuple #[.slice A27_0 n27_0 c27_0, .int .i64 x27_1, .int .i64 x27_2]) ∧ (
  sel (xt8 != xt20) (
  Kr false w26) (
  sel (xt9 != xt21) (
  Kr false w26) (
  sel (xt10 != xt22) (
  Kr false w26) (
  sel (xt11 != x24_0) (
  Kr false w26) (
  sel (xt12 != x24_1) (
  Kr false w26) (
  sel (xt13 != x24_2) (
  Kr false w26) (
  sel (xt15 != x27_1) (
  Kr false w26) (
  sel (xt16 != x27_2) (
  Kr false w26) (
  Calls Try.prog 17 #[.slice At14 nt14 ct14, .slice At17 nt17 ct17, .slice A27_0 n27_0 c27_0] w26 fun e28 w29 => ∃ (b30 : Bool), e28 = .returned (.bool b30) ∧ (
  sel b30 (
  Calls Try.prog 16 #[.slice At7 nt7 ct7, .slice At0 nt0 ct0] w29 fun e31 w32 => ∃ (b33 : Bool), e31 = .returned (.bool b33) ∧ (
  Kr b33 w32)) (
  Kr false w29))))))))))))
def wp (Aa0 : Option Addr) (na0 : Nat) (ca0 : Nat) (xa1 : Int) (xa2 : Int) (w : World) (Q : Ending → World → Prop) : Prop :=
  Calls Try.prog 22 #[] w fun e1 w2 => ∃ (b3 : Bool), e1 = .returned (.bool b3) ∧ (
  sel (!b3) (
  Q (.returned (.bool false)) w2) (
  Calls Try.prog 13 #[.slice Aa0 na0 ca0] w2 fun e4 w5 => ∃ (A6 : Option Addr) (n6 : Nat) (c6 : Nat), e4 = .returned (.slice A6 n6 c6) ∧ (
  req (decide (0 ≤ (na0 : Int) ∧ (na0 : Int) ≤ (c6 : Int))) <|
  Calls Try.prog 29 #[.slice (slA A6 0 c6 1) ((na0 : Int).toNat - 0) (c6 - 0), .int .i64 xa1] w5 fun e7 w8 => ∃ (x9_0 : Int) (x9_1 : Int) (x9_2 : Int), e7 = .returned (.tuple #[.int .u64 x9_0, .int .i64 x9_1, .int .i64 x9_2]) ∧ (
  req (decide (0 ≤ (na0 : Int) ∧ (na0 : Int) ≤ (c6 : Int))) <|
  Calls Try.prog 30 #[.slice (slA A6 0 c6 1) ((na0 : Int).toNat - 0) (c6 - 0), .int .i64 xa1] w8 fun e10 w11 => ∃ (x12_0 : Int) (x12_1 : Int) (x12_2 : Int), e10 = .returned (.tuple #[.int .i64 x12_0, .int .i64 x12_1, .int .i64 x12_2]) ∧ (
  req (decide (0 ≤ (na0 : Int) ∧ (na0 : Int) ≤ (c6 : Int))) <|
  Calls Try.prog 31 #[.slice (slA A6 0 c6 1) ((na0 : Int).toNat - 0) (c6 - 0), .int .i64 xa1, .int .i64 xa2] w11 fun e13 w14 => ∃ (A15_0 : Option Addr) (n15_0 : Nat) (c15_0 : Nat) (x15_1 : Int) (x15_2 : Int), e13 = .returned (.tuple #[.slice A15_0 n15_0 c15_0, .int .i64 x15_1, .int .i64 x15_2]) ∧ (
  req (decide (0 ≤ (na0 : Int) ∧ (na0 : Int) ≤ (c6 : Int))) <|
  Calls Try.prog 31 #[.slice (slA A6 0 c6 1) ((na0 : Int).toNat - 0) (c6 - 0), .int .i64 xa1, .int .i64 xa2] w14 fun e16 w17 => ∃ (A18_0 : Option Addr) (n18_0 : Nat) (c18_0 : Nat) (x18_1 : Int) (x18_2 : Int), e16 = .returned (.tuple #[.slice A18_0 n18_0 c18_0, .int .i64 x18_1, .int .i64 x18_2]) ∧ (
  Calls Try.prog 32 #[.slice Aa0 na0 ca0, .int .i64 xa1] w17 fun e19 w20 => ∃ (x21_0 : Int) (x21_1 : Int) (x21_2 : Int), e19 = .returned (.tuple #[.int .u64 x21_0, .int .i64 x21_1, .int .i64 x21_2]) ∧ (
  j0 Aa0 na0 ca0 xa1 xa2 A6 n6 c6 x9_0 x9_1 x9_2 x12_0 x12_1 x12_2 A15_0 n15_0 c15_0 x15_1 x15_2 A18_0 n18_0 c18_0 x21_0 x21_1 x21_2 w20 (fun (b34 : Bool) (w35 : World) => ∀ _ : Fr,
  Q (.returned (.bool b34)) w35)))))))))
def D : Nat → Option DH := dtab []
def j0LO : LO := ⟨[], [6], [], []⟩
def j0T : Spec := fun Q σ w =>
  gSlice (σ 0) fun At0 nt0 ct0 =>
  gInt .i64 (σ 1) fun xt1 =>
  gInt .i64 (σ 2) fun xt2 =>
  gSlice (σ 7) fun At7 nt7 ct7 =>
  gInt .u64 (σ 8) fun xt8 =>
  gInt .i64 (σ 9) fun xt9 =>
  gInt .i64 (σ 10) fun xt10 =>
  gInt .i64 (σ 11) fun xt11 =>
  gInt .i64 (σ 12) fun xt12 =>
  gInt .i64 (σ 13) fun xt13 =>
  gSlice (σ 14) fun At14 nt14 ct14 =>
  gInt .i64 (σ 15) fun xt15 =>
  gInt .i64 (σ 16) fun xt16 =>
  gSlice (σ 17) fun At17 nt17 ct17 =>
  gInt .u64 (σ 20) fun xt20 =>
  gInt .i64 (σ 21) fun xt21 =>
  gInt .i64 (σ 22) fun xt22 =>
  j0 At0 nt0 ct0 xt1 xt2 At7 nt7 ct7 xt8 xt9 xt10 xt11 xt12 xt13 At14 nt14 ct14 xt15 xt16 At17 nt17 ct17 xt20 xt21 xt22 w (fun (bq6 : Bool) (w : World) => ∀ d : Fr, Q .ret (ov d [(6, .bool bq6)]) w)
def j0tb : List (List Nat × Spec) := []
noncomputable def j0b : Code := (subC [1, 1, 1, 1, 1, 1, 1, 1] body).getD .skip
theorem j0_eq (At0 : Option Addr) (nt0 : Nat) (ct0 : Nat) (xt1 : Int) (xt2 : Int) (At7 : Option Addr) (nt7 : Nat) (ct7 : Nat) (xt8 : Int) (xt9 : Int) (xt10 : Int) (xt11 : Int) (xt12 : Int) (xt13 : Int) (At14 : Option Addr) (nt14 : Nat) (ct14 : Nat) (xt15 : Int) (xt16 : Int) (At17 : Option Addr) (nt17 : Nat) (ct17 : Nat) (xt20 : Int) (xt21 : Int) (xt22 : Int) (Q : PQ) (σ : Fr) (w : World) :
    j0 At0 nt0 ct0 xt1 xt2 At7 nt7 ct7 xt8 xt9 xt10 xt11 xt12 xt13 At14 nt14 ct14 xt15 xt16 At17 nt17 ct17 xt20 xt21 xt22 w (fun (bq6 : Bool) (w : World) => ∀ d : Fr, Q .ret (ov d [(6, .bool bq6)]) w) = codeW Try.prog hT 144 D (tab j0tb) [1, 1, 1, 1, 1, 1, 1, 1] j0b (widen j0LO Q) (ov σ [(0, .slice At0 nt0 ct0), (1, .int .i64 xt1), (2, .int .i64 xt2), (7, .slice At7 nt7 ct7), (8, .int .u64 xt8), (9, .int .i64 xt9), (10, .int .i64 xt10), (11, .int .i64 xt11), (12, .int .i64 xt12), (13, .int .i64 xt13), (14, .slice At14 nt14 ct14), (15, .int .i64 xt15), (16, .int .i64 xt16), (17, .slice At17 nt17 ct17), (20, .int .u64 xt20), (21, .int .i64 xt21), (22, .int .i64 xt22)]) w := by kernel_rfl
theorem j0_snd : ∀ c, subC [1, 1, 1, 1, 1, 1, 1, 1] body = some c → Snd Try.prog 144 c j0T := by
  refine cut_of (hT := hT) (D := D) (l := j0tb) (b := j0b) (lo := j0LO) (by kernel_rfl) (by
    intro x hx
    simp only [j0tb, List.not_mem_nil] at hx
    ) (by kernel_rfl) (by kernel_rfl) ?_
  intro Q σ w h
  unfold j0T at h
  obtain ⟨At0, nt0, ct0, h0, hn⟩ := gSlice_elim h
  clear h
  have h := hn
  clear hn
  obtain ⟨xt1, h1, hn⟩ := gInt_elim h
  clear h
  have h := hn
  clear hn
  obtain ⟨xt2, h2, hn⟩ := gInt_elim h
  clear h
  have h := hn
  clear hn
  obtain ⟨At7, nt7, ct7, h7, hn⟩ := gSlice_elim h
  clear h
  have h := hn
  clear hn
  obtain ⟨xt8, h8, hn⟩ := gInt_elim h
  clear h
  have h := hn
  clear hn
  obtain ⟨xt9, h9, hn⟩ := gInt_elim h
  clear h
  have h := hn
  clear hn
  obtain ⟨xt10, h10, hn⟩ := gInt_elim h
  clear h
  have h := hn
  clear hn
  obtain ⟨xt11, h11, hn⟩ := gInt_elim h
  clear h
  have h := hn
  clear hn
  obtain ⟨xt12, h12, hn⟩ := gInt_elim h
  clear h
  have h := hn
  clear hn
  obtain ⟨xt13, h13, hn⟩ := gInt_elim h
  clear h
  have h := hn
  clear hn
  obtain ⟨At14, nt14, ct14, h14, hn⟩ := gSlice_elim h
  clear h
  have h := hn
  clear hn
  obtain ⟨xt15, h15, hn⟩ := gInt_elim h
  clear h
  have h := hn
  clear hn
  obtain ⟨xt16, h16, hn⟩ := gInt_elim h
  clear h
  have h := hn
  clear hn
  obtain ⟨At17, nt17, ct17, h17, hn⟩ := gSlice_elim h
  clear h
  have h := hn
  clear hn
  obtain ⟨xt20, h20, hn⟩ := gInt_elim h
  clear h
  have h := hn
  clear hn
  obtain ⟨xt21, h21, hn⟩ := gInt_elim h
  clear h
  have h := hn
  clear hn
  obtain ⟨xt22, h22, hn⟩ := gInt_elim h
  clear h
  have h := hn
  clear hn
  rw [j0_eq (σ := σ)] at h
  have e : (ov σ [(0, .slice At0 nt0 ct0), (1, .int .i64 xt1), (2, .int .i64 xt2), (7, .slice At7 nt7 ct7), (8, .int .u64 xt8), (9, .int .i64 xt9), (10, .int .i64 xt10), (11, .int .i64 xt11), (12, .int .i64 xt12), (13, .int .i64 xt13), (14, .slice At14 nt14 ct14), (15, .int .i64 xt15), (16, .int .i64 xt16), (17, .slice At17 nt17 ct17), (20, .int .u64 xt20), (21, .int .i64 xt21), (22, .int .i64 xt22)]) = σ := ov_self (by simp [h0, h1, h2, h7, h8, h9, h10, h11, h12, h13, h14, h15, h16, h17, h20, h21, h22])
  rw [e] at h
  exact h
def tb : List (List Nat × Spec) := [([1, 1, 1, 1, 1, 1, 1, 1], j0T)]
theorem wp_eq (Aa0 : Option Addr) (na0 : Nat) (ca0 : Nat) (xa1 : Int) (xa2 : Int) (w : World) (Q : Ending → World → Prop) :
    wp Aa0 na0 ca0 xa1 xa2 w Q = codeW Try.prog hT 144 D (tab tb) [] body (topQ Try.prog hT 144 [.tmp 6] Q) (argsF [.slice Aa0 na0 ca0, .int .i64 xa1, .int .i64 xa2]) w := by kernel_rfl
theorem ok (Aa0 : Option Addr) (na0 : Nat) (ca0 : Nat) (xa1 : Int) (xa2 : Int) (w : World) (Q : Ending → World → Prop) (h : wp Aa0 na0 ca0 xa1 xa2 w Q) : Calls Try.prog 8 #[.slice Aa0 na0 ca0, .int .i64 xa1, .int .i64 xa2] w Q := by
  rw [wp_eq] at h
  exact calls_of_codeW (c := body) (rs := [.tmp 6]) Try.func8 (by kernel_rfl) (by kernel_rfl) (by kernel_rfl) (by kernel_rfl) (by kernel_rfl) (tab_snd (by
    intro x hx
    simp only [tb, List.mem_cons, List.not_mem_nil, or_false] at hx
    subst hx
    exact j0_snd)) (by kernel_rfl) h
end f_law01_NumGets
namespace f_law01_NumBack
/-! skein/skeinlaw01.NumBack: function 9 -/
noncomputable def body : Code := (Try.f9.body).getD .skip
def j0 (xt0 : Int) (xt1 : Int) (At2 : Option Addr) (nt2 : Nat) (ct2 : Nat) (At3 : Option Addr) (nt3 : Nat) (ct3 : Nat) (At11 : Option Addr) (nt11 : Nat) (ct11 : Nat) (xt12 : Int) (xt13 : Int) (xt14 : Int) (xt17 : Int) (At18 : Option Addr) (nt18 : Nat) (ct18 : Nat) (xt19 : Int) (xt20 : Int) (xt21 : Int) (At22 : Option Addr) (nt22 : Nat) (ct22 : Nat) (At23 : Option Addr) (nt23 : Nat) (ct23 : Nat) (xt24 : Int) (xt25 : Int) (w : World) (Kr : Bool → World → Prop) : Prop :=
  sel (xt12 != xt0) (
  Kr false w) (
  sel (xt13 != (IntKind.i64.wrap ((nt3 : Int) + (nt11 : Int)))) (
  Kr false w) (
  sel (xt14 != (0 : Int)) (
  Kr false w) (
  sel (xt17 != (2 : Int)) (
  Kr false w) (
  sel (xt19 != xt1) (
  Kr false w) (
  sel (xt20 != (IntKind.i64.wrap ((nt3 : Int) + (nt18 : Int)))) (
  Kr false w) (
  sel (xt21 != (0 : Int)) (
  Kr false w) (
  sel (xt25 == (0 : Int)) (
  sel (xt24 == (IntKind.i64.wrap ((nt3 : Int) + (nt22 : Int)))) (
  Calls Try.prog 37 #[.slice At23 nt23 ct23, .slice At2 nt2 ct2] w fun e46 w47 => ∃ (b48 : Bool), e46 = .returned (.bool b48) ∧ (
  Kr b48 w47)) (
  Kr false w)) (
  Kr false w))))))))
def wp (xa0 : Int) (xa1 : Int) (Aa2 : Option Addr) (na2 : Nat) (ca2 : Nat) (Aa3 : Option Addr) (na3 : Nat) (ca3 : Nat) (Aa4 : Option Addr) (na4 : Nat) (ca4 : Nat) (w : World) (Q : Ending → World → Prop) : Prop :=
  Calls Try.prog 22 #[] w fun e1 w2 => ∃ (b3 : Bool), e1 = .returned (.bool b3) ∧ (
  sel (!b3) (
  Q (.returned (.bool false)) w2) (
  Calls Try.prog 25 #[.int .u64 xa0] w2 fun e4 w5 => ∃ (A6 : Option Addr) (n6 : Nat) (c6 : Nat), e4 = .returned (.slice A6 n6 c6) ∧ (
  Calls Try.prog 35 #[.slice Aa3 na3 ca3, .slice A6 n6 c6] w5 fun e7 w8 => ∃ (A9 : Option Addr) (n9 : Nat) (c9 : Nat), e7 = .returned (.slice A9 n9 c9) ∧ (
  Calls Try.prog 35 #[.slice A9 n9 c9, .slice Aa4 na4 ca4] w8 fun e10 w11 => ∃ (A12 : Option Addr) (n12 : Nat) (c12 : Nat), e10 = .returned (.slice A12 n12 c12) ∧ (
  Calls Try.prog 29 #[.slice A12 n12 c12, .int .i64 (na3 : Int)] w11 fun e13 w14 => ∃ (x15_0 : Int) (x15_1 : Int) (x15_2 : Int), e13 = .returned (.tuple #[.int .u64 x15_0, .int .i64 x15_1, .int .i64 x15_2]) ∧ (
  Calls Try.prog 36 #[.slice A6 n6 c6, .int .i64 (0 : Int), .int .i64 (IntKind.i64.wrap ((n6 : Int) - (1 : Int)))] w14 fun e16 w17 => ∃ (A18 : Option Addr) (n18 : Nat) (c18 : Nat), e16 = .returned (.slice A18 n18 c18) ∧ (
  Calls Try.prog 29 #[.slice A18 n18 c18, .int .i64 (0 : Int)] w17 fun e19 w20 => ∃ (x21_0 : Int) (x21_1 : Int) (x21_2 : Int), e19 = .returned (.tuple #[.int .u64 x21_0, .int .i64 x21_1, .int .i64 x21_2]) ∧ (
  Calls Try.prog 27 #[.int .i64 xa1] w20 fun e22 w23 => ∃ (A24 : Option Addr) (n24 : Nat) (c24 : Nat), e22 = .returned (.slice A24 n24 c24) ∧ (
  Calls Try.prog 35 #[.slice Aa3 na3 ca3, .slice A24 n24 c24] w23 fun e25 w26 => ∃ (A27 : Option Addr) (n27 : Nat) (c27 : Nat), e25 = .returned (.slice A27 n27 c27) ∧ (
  Calls Try.prog 35 #[.slice A27 n27 c27, .slice Aa4 na4 ca4] w26 fun e28 w29 => ∃ (A30 : Option Addr) (n30 : Nat) (c30 : Nat), e28 = .returned (.slice A30 n30 c30) ∧ (
  Calls Try.prog 30 #[.slice A30 n30 c30, .int .i64 (na3 : Int)] w29 fun e31 w32 => ∃ (x33_0 : Int) (x33_1 : Int) (x33_2 : Int), e31 = .returned (.tuple #[.int .i64 x33_0, .int .i64 x33_1, .int .i64 x33_2]) ∧ (
  Calls Try.prog 23 #[.slice Aa2 na2 ca2] w32 fun e34 w35 => ∃ (A36 : Option Addr) (n36 : Nat) (c36 : Nat), e34 = .returned (.slice A36 n36 c36) ∧ (
  Calls Try.prog 35 #[.slice Aa3 na3 ca3, .slice A36 n36 c36] w35 fun e37 w38 => ∃ (A39 : Option Addr) (n39 : Nat) (c39 : Nat), e37 = .returned (.slice A39 n39 c39) ∧ (
  Calls Try.prog 35 #[.slice A39 n39 c39, .slice Aa4 na4 ca4] w38 fun e40 w41 => ∃ (A42 : Option Addr) (n42 : Nat) (c42 : Nat), e40 = .returned (.slice A42 n42 c42) ∧ (
  Calls Try.prog 31 #[.slice A42 n42 c42, .int .i64 (na3 : Int), .int .i64 (na2 : Int)] w41 fun e43 w44 => ∃ (A45_0 : Option Addr) (n45_0 : Nat) (c45_0 : Nat) (x45_1 : Int) (x45_2 : Int), e43 = .returned (.tuple #[.slice A45_0 n45_0 c45_0, .int .i64 x45_1, .int .i64 x45_2]) ∧ (
  j0 xa0 xa1 Aa2 na2 ca2 Aa3 na3 ca3 A6 n6 c6 x15_0 x15_1 x15_2 x21_2 A24 n24 c24 x33_0 x33_1 x33_2 A36 n36 c36 A45_0 n45_0 c45_0 x45_1 x45_2 w44 (fun (b49 : Bool) (w50 : World) => ∀ _ : Fr,
  Q (.returned (.bool b49)) w50)))))))))))))))))
def D : Nat → Option DH := dtab []
def j0LO : LO := ⟨[], [10], [], []⟩
def j0T : Spec := fun Q σ w =>
  gInt .u64 (σ 0) fun xt0 =>
  gInt .i64 (σ 1) fun xt1 =>
  gSlice (σ 2) fun At2 nt2 ct2 =>
  gSlice (σ 3) fun At3 nt3 ct3 =>
  gSlice (σ 11) fun At11 nt11 ct11 =>
  gInt .u64 (σ 12) fun xt12 =>
  gInt .i64 (σ 13) fun xt13 =>
  gInt .i64 (σ 14) fun xt14 =>
  gInt .i64 (σ 17) fun xt17 =>
  gSlice (σ 18) fun At18 nt18 ct18 =>
  gInt .i64 (σ 19) fun xt19 =>
  gInt .i64 (σ 20) fun xt20 =>
  gInt .i64 (σ 21) fun xt21 =>
  gSlice (σ 22) fun At22 nt22 ct22 =>
  gSlice (σ 23) fun At23 nt23 ct23 =>
  gInt .i64 (σ 24) fun xt24 =>
  gInt .i64 (σ 25) fun xt25 =>
  j0 xt0 xt1 At2 nt2 ct2 At3 nt3 ct3 At11 nt11 ct11 xt12 xt13 xt14 xt17 At18 nt18 ct18 xt19 xt20 xt21 At22 nt22 ct22 At23 nt23 ct23 xt24 xt25 w (fun (bq10 : Bool) (w : World) => ∀ d : Fr, Q .ret (ov d [(10, .bool bq10)]) w)
def j0tb : List (List Nat × Spec) := []
noncomputable def j0b : Code := (subC [1, 1, 1, 1, 1, 1, 1, 1, 1] body).getD .skip
theorem j0_eq (xt0 : Int) (xt1 : Int) (At2 : Option Addr) (nt2 : Nat) (ct2 : Nat) (At3 : Option Addr) (nt3 : Nat) (ct3 : Nat) (At11 : Option Addr) (nt11 : Nat) (ct11 : Nat) (xt12 : Int) (xt13 : Int) (xt14 : Int) (xt17 : Int) (At18 : Option Addr) (nt18 : Nat) (ct18 : Nat) (xt19 : Int) (xt20 : Int) (xt21 : Int) (At22 : Option Addr) (nt22 : Nat) (ct22 : Nat) (At23 : Option Addr) (nt23 : Nat) (ct23 : Nat) (xt24 : Int) (xt25 : Int) (Q : PQ) (σ : Fr) (w : World) :
    j0 xt0 xt1 At2 nt2 ct2 At3 nt3 ct3 At11 nt11 ct11 xt12 xt13 xt14 xt17 At18 nt18 ct18 xt19 xt20 xt21 At22 nt22 ct22 At23 nt23 ct23 xt24 xt25 w (fun (bq10 : Bool) (w : World) => ∀ d : Fr, Q .ret (ov d [(10, .bool bq10)]) w) = codeW Try.prog hT 136 D (tab j0tb) [1, 1, 1, 1, 1, 1, 1, 1, 1] j0b (widen j0LO Q) (ov σ [(0, .int .u64 xt0), (1, .int .i64 xt1), (2, .slice At2 nt2 ct2), (3, .slice At3 nt3 ct3), (11, .slice At11 nt11 ct11), (12, .int .u64 xt12), (13, .int .i64 xt13), (14, .int .i64 xt14), (17, .int .i64 xt17), (18, .slice At18 nt18 ct18), (19, .int .i64 xt19), (20, .int .i64 xt20), (21, .int .i64 xt21), (22, .slice At22 nt22 ct22), (23, .slice At23 nt23 ct23), (24, .int .i64 xt24), (25, .int .i64 xt25)]) w := by kernel_rfl
theorem j0_snd : ∀ c, subC [1, 1, 1, 1, 1, 1, 1, 1, 1] body = some c → Snd Try.prog 136 c j0T := by
  refine cut_of (hT := hT) (D := D) (l := j0tb) (b := j0b) (lo := j0LO) (by kernel_rfl) (by
    intro x hx
    simp only [j0tb, List.not_mem_nil] at hx
    ) (by kernel_rfl) (by kernel_rfl) ?_
  intro Q σ w h
  unfold j0T at h
  obtain ⟨xt0, h0, hn⟩ := gInt_elim h
  clear h
  have h := hn
  clear hn
  obtain ⟨xt1, h1, hn⟩ := gInt_elim h
  clear h
  have h := hn
  clear hn
  obtain ⟨At2, nt2, ct2, h2, hn⟩ := gSlice_elim h
  clear h
  have h := hn
  clear hn
  obtain ⟨At3, nt3, ct3, h3, hn⟩ := gSlice_elim h
  clear h
  have h := hn
  clear hn
  obtain ⟨At11, nt11, ct11, h11, hn⟩ := gSlice_elim h
  clear h
  have h := hn
  clear hn
  obtain ⟨xt12, h12, hn⟩ := gInt_elim h
  clear h
  have h := hn
  clear hn
  obtain ⟨xt13, h13, hn⟩ := gInt_elim h
  clear h
  have h := hn
  clear hn
  obtain ⟨xt14, h14, hn⟩ := gInt_elim h
  clear h
  have h := hn
  clear hn
  obtain ⟨xt17, h17, hn⟩ := gInt_elim h
  clear h
  have h := hn
  clear hn
  obtain ⟨At18, nt18, ct18, h18, hn⟩ := gSlice_elim h
  clear h
  have h := hn
  clear hn
  obtain ⟨xt19, h19, hn⟩ := gInt_elim h
  clear h
  have h := hn
  clear hn
  obtain ⟨xt20, h20, hn⟩ := gInt_elim h
  clear h
  have h := hn
  clear hn
  obtain ⟨xt21, h21, hn⟩ := gInt_elim h
  clear h
  have h := hn
  clear hn
  obtain ⟨At22, nt22, ct22, h22, hn⟩ := gSlice_elim h
  clear h
  have h := hn
  clear hn
  obtain ⟨At23, nt23, ct23, h23, hn⟩ := gSlice_elim h
  clear h
  have h := hn
  clear hn
  obtain ⟨xt24, h24, hn⟩ := gInt_elim h
  clear h
  have h := hn
  clear hn
  obtain ⟨xt25, h25, hn⟩ := gInt_elim h
  clear h
  have h := hn
  clear hn
  rw [j0_eq (σ := σ)] at h
  have e : (ov σ [(0, .int .u64 xt0), (1, .int .i64 xt1), (2, .slice At2 nt2 ct2), (3, .slice At3 nt3 ct3), (11, .slice At11 nt11 ct11), (12, .int .u64 xt12), (13, .int .i64 xt13), (14, .int .i64 xt14), (17, .int .i64 xt17), (18, .slice At18 nt18 ct18), (19, .int .i64 xt19), (20, .int .i64 xt20), (21, .int .i64 xt21), (22, .slice At22 nt22 ct22), (23, .slice At23 nt23 ct23), (24, .int .i64 xt24), (25, .int .i64 xt25)]) = σ := ov_self (by simp [h0, h1, h2, h3, h11, h12, h13, h14, h17, h18, h19, h20, h21, h22, h23, h24, h25])
  rw [e] at h
  exact h
def tb : List (List Nat × Spec) := [([1, 1, 1, 1, 1, 1, 1, 1, 1], j0T)]
theorem wp_eq (xa0 : Int) (xa1 : Int) (Aa2 : Option Addr) (na2 : Nat) (ca2 : Nat) (Aa3 : Option Addr) (na3 : Nat) (ca3 : Nat) (Aa4 : Option Addr) (na4 : Nat) (ca4 : Nat) (w : World) (Q : Ending → World → Prop) :
    wp xa0 xa1 Aa2 na2 ca2 Aa3 na3 ca3 Aa4 na4 ca4 w Q = codeW Try.prog hT 136 D (tab tb) [] body (topQ Try.prog hT 136 [.tmp 10] Q) (argsF [.int .u64 xa0, .int .i64 xa1, .slice Aa2 na2 ca2, .slice Aa3 na3 ca3, .slice Aa4 na4 ca4]) w := by kernel_rfl
theorem ok (xa0 : Int) (xa1 : Int) (Aa2 : Option Addr) (na2 : Nat) (ca2 : Nat) (Aa3 : Option Addr) (na3 : Nat) (ca3 : Nat) (Aa4 : Option Addr) (na4 : Nat) (ca4 : Nat) (w : World) (Q : Ending → World → Prop) (h : wp xa0 xa1 Aa2 na2 ca2 Aa3 na3 ca3 Aa4 na4 ca4 w Q) : Calls Try.prog 9 #[.int .u64 xa0, .int .i64 xa1, .slice Aa2 na2 ca2, .slice Aa3 na3 ca3, .slice Aa4 na4 ca4] w Q := by
  rw [wp_eq] at h
  exact calls_of_codeW (c := body) (rs := [.tmp 10]) Try.func9 (by kernel_rfl) (by kernel_rfl) (by kernel_rfl) (by kernel_rfl) (by kernel_rfl) (tab_snd (by
    intro x hx
    simp only [tb, List.mem_cons, List.not_mem_nil, or_false] at hx
    subst hx
    exact j0_snd)) (by kernel_rfl) h
end f_law01_NumBack
namespace f_law01_NumOnly
/-! skein/skeinlaw01.NumOnly: function 10 -/
noncomputable def body : Code := (Try.f10.body).getD .skip
def j0 (At0 : Option Addr) (nt0 : Nat) (ct0 : Nat) (xt1 : Int) (w : World) (Kr : Bool → World → Prop) : Prop :=
  Calls Try.prog 38 #[.slice At0 nt0 ct0] w fun e34 w35 => ∃ (A36 : Option Addr) (n36 : Nat) (c36 : Nat), e34 = .returned (.slice A36 n36 c36) ∧ (
  Calls Try.prog 31 #[.slice A36 n36 c36, .int .i64 xt1, .int .i64 (nt0 : Int)] w35 fun e37 w38 => ∃ (A39_0 : Option Addr) (n39_0 : Nat) (c39_0 : Nat) (x39_1 : Int) (x39_2 : Int), e37 = .returned (.tuple #[.slice A39_0 n39_0 c39_0, .int .i64 x39_1, .int .i64 x39_2]) ∧ (
  sel (x39_2 != (0 : Int)) (
  sel ((n39_0 : Int) == (0 : Int)) (
  Kr (x39_1 == (0 : Int)) w38) (
  Kr false w38)) (
  sel (decide (x39_1 ≤ (nt0 : Int))) (
  Calls Try.prog 23 #[.slice A39_0 n39_0 c39_0] w38 fun e40 w41 => ∃ (A42 : Option Addr) (n42 : Nat) (c42 : Nat), e40 = .returned (.slice A42 n42 c42) ∧ (
  Calls Try.prog 36 #[.slice At0 nt0 ct0, .int .i64 xt1, .int .i64 x39_1] w41 fun e43 w44 => ∃ (A45 : Option Addr) (n45 : Nat) (c45 : Nat), e43 = .returned (.slice A45 n45 c45) ∧ (
  Calls Try.prog 37 #[.slice A42 n42 c42, .slice A45 n45 c45] w44 fun e46 w47 => ∃ (b48 : Bool), e46 = .returned (.bool b48) ∧ (
  Kr b48 w47)))) (
  Kr false w38))))
def wp (Aa0 : Option Addr) (na0 : Nat) (ca0 : Nat) (xa1 : Int) (w : World) (Q : Ending → World → Prop) : Prop :=
  Calls Try.prog 22 #[] w fun e1 w2 => ∃ (b3 : Bool), e1 = .returned (.bool b3) ∧ (
  sel (!b3) (
  Q (.returned (.bool false)) w2) (
  Calls Try.prog 38 #[.slice Aa0 na0 ca0] w2 fun e4 w5 => ∃ (A6 : Option Addr) (n6 : Nat) (c6 : Nat), e4 = .returned (.slice A6 n6 c6) ∧ (
  Calls Try.prog 29 #[.slice A6 n6 c6, .int .i64 xa1] w5 fun e7 w8 => ∃ (x9_0 : Int) (x9_1 : Int) (x9_2 : Int), e7 = .returned (.tuple #[.int .u64 x9_0, .int .i64 x9_1, .int .i64 x9_2]) ∧ (
  sel (x9_2 == (0 : Int)) (
  sel (decide (x9_1 ≤ xa1)) (
  Q (.returned (.bool false)) w8) (
  sel (decide (x9_1 > (na0 : Int))) (
  Q (.returned (.bool false)) w8) (
  Calls Try.prog 25 #[.int .u64 x9_0] w8 fun e10 w11 => ∃ (A12 : Option Addr) (n12 : Nat) (c12 : Nat), e10 = .returned (.slice A12 n12 c12) ∧ (
  Calls Try.prog 36 #[.slice Aa0 na0 ca0, .int .i64 xa1, .int .i64 x9_1] w11 fun e13 w14 => ∃ (A15 : Option Addr) (n15 : Nat) (c15 : Nat), e13 = .returned (.slice A15 n15 c15) ∧ (
  Calls Try.prog 37 #[.slice A12 n12 c12, .slice A15 n15 c15] w14 fun e16 w17 => ∃ (b18 : Bool), e16 = .returned (.bool b18) ∧ (
  sel (!b18) (
  Q (.returned (.bool false)) w17) (
  sel (x9_2 != (0 : Int)) (
  sel (x9_0 != (0 : Int)) (
  Q (.returned (.bool false)) w17) (
  sel (x9_1 != (0 : Int)) (
  Q (.returned (.bool false)) w17) (
  Calls Try.prog 38 #[.slice Aa0 na0 ca0] w17 fun e19 w20 => ∃ (A21 : Option Addr) (n21 : Nat) (c21 : Nat), e19 = .returned (.slice A21 n21 c21) ∧ (
  Calls Try.prog 30 #[.slice A21 n21 c21, .int .i64 xa1] w20 fun e22 w23 => ∃ (x24_0 : Int) (x24_1 : Int) (x24_2 : Int), e22 = .returned (.tuple #[.int .i64 x24_0, .int .i64 x24_1, .int .i64 x24_2]) ∧ (
  sel (x24_2 == (0 : Int)) (
  Calls Try.prog 27 #[.int .i64 x24_0] w23 fun e25 w26 => ∃ (A27 : Option Addr) (n27 : Nat) (c27 : Nat), e25 = .returned (.slice A27 n27 c27) ∧ (
  Calls Try.prog 36 #[.slice Aa0 na0 ca0, .int .i64 xa1, .int .i64 x24_1] w26 fun e28 w29 => ∃ (A30 : Option Addr) (n30 : Nat) (c30 : Nat), e28 = .returned (.slice A30 n30 c30) ∧ (
  Calls Try.prog 37 #[.slice A27 n27 c27, .slice A30 n30 c30] w29 fun e31 w32 => ∃ (b33 : Bool), e31 = .returned (.bool b33) ∧ (
  sel (!b33) (
  Q (.returned (.bool false)) w32) (
  sel (x24_2 != x9_2) (
  Q (.returned (.bool false)) w32) (
  sel (x24_1 != x9_1) (
  Q (.returned (.bool false)) w32) (
  j0 Aa0 na0 ca0 xa1 w32 (fun (b49 : Bool) (w50 : World) => ∀ _ : Fr,
  Q (.returned (.bool b49)) w50)))))))) (
  sel (x24_2 != x9_2) (
  Q (.returned (.bool false)) w23) (
  sel (x24_1 != x9_1) (
  Q (.returned (.bool false)) w23) (
  j0 Aa0 na0 ca0 xa1 w23 (fun (b51 : Bool) (w52 : World) => ∀ _ : Fr,
  Q (.returned (.bool b51)) w52))))))))) (
  Calls Try.prog 38 #[.slice Aa0 na0 ca0] w17 fun e53 w54 => ∃ (A55 : Option Addr) (n55 : Nat) (c55 : Nat), e53 = .returned (.slice A55 n55 c55) ∧ (
  Calls Try.prog 30 #[.slice A55 n55 c55, .int .i64 xa1] w54 fun e56 w57 => ∃ (x58_0 : Int) (x58_1 : Int) (x58_2 : Int), e56 = .returned (.tuple #[.int .i64 x58_0, .int .i64 x58_1, .int .i64 x58_2]) ∧ (
  sel (x58_2 == (0 : Int)) (
  Calls Try.prog 27 #[.int .i64 x58_0] w57 fun e59 w60 => ∃ (A61 : Option Addr) (n61 : Nat) (c61 : Nat), e59 = .returned (.slice A61 n61 c61) ∧ (
  Calls Try.prog 36 #[.slice Aa0 na0 ca0, .int .i64 xa1, .int .i64 x58_1] w60 fun e62 w63 => ∃ (A64 : Option Addr) (n64 : Nat) (c64 : Nat), e62 = .returned (.slice A64 n64 c64) ∧ (
  Calls Try.prog 37 #[.slice A61 n61 c61, .slice A64 n64 c64] w63 fun e65 w66 => ∃ (b67 : Bool), e65 = .returned (.bool b67) ∧ (
  sel (!b67) (
  Q (.returned (.bool false)) w66) (
  sel (x58_2 != x9_2) (
  Q (.returned (.bool false)) w66) (
  sel (x58_1 != x9_1) (
  Q (.returned (.bool false)) w66) (
  j0 Aa0 na0 ca0 xa1 w66 (fun (b68 : Bool) (w69 : World) => ∀ _ : Fr,
  Q (.returned (.bool b68)) w69)))))))) (
  sel (x58_2 != x9_2) (
  Q (.returned (.bool false)) w57) (
  sel (x58_1 != x9_1) (
  Q (.returned (.bool false)) w57) (
  j0 Aa0 na0 ca0 xa1 w57 (fun (b70 : Bool) (w71 : World) => ∀ _ : Fr,
  Q (.returned (.bool b70)) w71)))))))))))))) (
  sel (x9_2 != (0 : Int)) (
  sel (x9_0 != (0 : Int)) (
  Q (.returned (.bool false)) w8) (
  sel (x9_1 != (0 : Int)) (
  Q (.returned (.bool false)) w8) (
  Calls Try.prog 38 #[.slice Aa0 na0 ca0] w8 fun e72 w73 => ∃ (A74 : Option Addr) (n74 : Nat) (c74 : Nat), e72 = .returned (.slice A74 n74 c74) ∧ (
  Calls Try.prog 30 #[.slice A74 n74 c74, .int .i64 xa1] w73 fun e75 w76 => ∃ (x77_0 : Int) (x77_1 : Int) (x77_2 : Int), e75 = .returned (.tuple #[.int .i64 x77_0, .int .i64 x77_1, .int .i64 x77_2]) ∧ (
  sel (x77_2 == (0 : Int)) (
  Calls Try.prog 27 #[.int .i64 x77_0] w76 fun e78 w79 => ∃ (A80 : Option Addr) (n80 : Nat) (c80 : Nat), e78 = .returned (.slice A80 n80 c80) ∧ (
  Calls Try.prog 36 #[.slice Aa0 na0 ca0, .int .i64 xa1, .int .i64 x77_1] w79 fun e81 w82 => ∃ (A83 : Option Addr) (n83 : Nat) (c83 : Nat), e81 = .returned (.slice A83 n83 c83) ∧ (
  Calls Try.prog 37 #[.slice A80 n80 c80, .slice A83 n83 c83] w82 fun e84 w85 => ∃ (b86 : Bool), e84 = .returned (.bool b86) ∧ (
  sel (!b86) (
  Q (.returned (.bool false)) w85) (
  sel (x77_2 != x9_2) (
  Q (.returned (.bool false)) w85) (
  sel (x77_1 != x9_1) (
  Q (.returned (.bool false)) w85) (
  j0 Aa0 na0 ca0 xa1 w85 (fun (b87 : Bool) (w88 : World) => ∀ _ : Fr,
  Q (.returned (.bool b87)) w88)))))))) (
  sel (x77_2 != x9_2) (
  Q (.returned (.bool false)) w76) (
  sel (x77_1 != x9_1) (
  Q (.returned (.bool false)) w76) (
  j0 Aa0 na0 ca0 xa1 w76 (fun (b89 : Bool) (w90 : World) => ∀ _ : Fr,
  Q (.returned (.bool b89)) w90))))))))) (
  Calls Try.prog 38 #[.slice Aa0 na0 ca0] w8 fun e91 w92 => ∃ (A93 : Option Addr) (n93 : Nat) (c93 : Nat), e91 = .returned (.slice A93 n93 c93) ∧ (
  Calls Try.prog 30 #[.slice A93 n93 c93, .int .i64 xa1] w92 fun e94 w95 => ∃ (x96_0 : Int) (x96_1 : Int) (x96_2 : Int), e94 = .returned (.tuple #[.int .i64 x96_0, .int .i64 x96_1, .int .i64 x96_2]) ∧ (
  sel (x96_2 == (0 : Int)) (
  Calls Try.prog 27 #[.int .i64 x96_0] w95 fun e97 w98 => ∃ (A99 : Option Addr) (n99 : Nat) (c99 : Nat), e97 = .returned (.slice A99 n99 c99) ∧ (
  Calls Try.prog 36 #[.slice Aa0 na0 ca0, .int .i64 xa1, .int .i64 x96_1] w98 fun e100 w101 => ∃ (A102 : Option Addr) (n102 : Nat) (c102 : Nat), e100 = .returned (.slice A102 n102 c102) ∧ (
  Calls Try.prog 37 #[.slice A99 n99 c99, .slice A102 n102 c102] w101 fun e103 w104 => ∃ (b105 : Bool), e103 = .returned (.bool b105) ∧ (
  sel (!b105) (
  Q (.returned (.bool false)) w104) (
  sel (x96_2 != x9_2) (
  Q (.returned (.bool false)) w104) (
  sel (x96_1 != x9_1) (
  Q (.returned (.bool false)) w104) (
  j0 Aa0 na0 ca0 xa1 w104 (fun (b106 : Bool) (w107 : World) => ∀ _ : Fr,
  Q (.returned (.bool b106)) w107)))))))) (
  sel (x96_2 != x9_2) (
  Q (.returned (.bool false)) w95) (
  sel (x96_1 != x9_1) (
  Q (.returned (.bool false)) w95) (
  j0 Aa0 na0 ca0 xa1 w95 (fun (b108 : Bool) (w109 : World) => ∀ _ : Fr,
  Q (.returned (.bool b108)) w109))))))))))))
def D : Nat → Option DH := dtab []
def j0LO : LO := ⟨[], [4], [], []⟩
def j0T : Spec := fun Q σ w =>
  gSlice (σ 0) fun At0 nt0 ct0 =>
  gInt .i64 (σ 1) fun xt1 =>
  j0 At0 nt0 ct0 xt1 w (fun (bq4 : Bool) (w : World) => ∀ d : Fr, Q .ret (ov d [(4, .bool bq4)]) w)
def j0tb : List (List Nat × Spec) := []
noncomputable def j0b : Code := (subC [1, 1, 1, 1, 1, 1] body).getD .skip
theorem j0_eq (At0 : Option Addr) (nt0 : Nat) (ct0 : Nat) (xt1 : Int) (Q : PQ) (σ : Fr) (w : World) :
    j0 At0 nt0 ct0 xt1 w (fun (bq4 : Bool) (w : World) => ∀ d : Fr, Q .ret (ov d [(4, .bool bq4)]) w) = codeW Try.prog hT 121 D (tab j0tb) [1, 1, 1, 1, 1, 1] j0b (widen j0LO Q) (ov σ [(0, .slice At0 nt0 ct0), (1, .int .i64 xt1)]) w := by kernel_rfl
theorem j0_snd : ∀ c, subC [1, 1, 1, 1, 1, 1] body = some c → Snd Try.prog 121 c j0T := by
  refine cut_of (hT := hT) (D := D) (l := j0tb) (b := j0b) (lo := j0LO) (by kernel_rfl) (by
    intro x hx
    simp only [j0tb, List.not_mem_nil] at hx
    ) (by kernel_rfl) (by kernel_rfl) ?_
  intro Q σ w h
  unfold j0T at h
  obtain ⟨At0, nt0, ct0, h0, hn⟩ := gSlice_elim h
  clear h
  have h := hn
  clear hn
  obtain ⟨xt1, h1, hn⟩ := gInt_elim h
  clear h
  have h := hn
  clear hn
  rw [j0_eq (σ := σ)] at h
  have e : (ov σ [(0, .slice At0 nt0 ct0), (1, .int .i64 xt1)]) = σ := ov_self (by simp [h0, h1])
  rw [e] at h
  exact h
def tb : List (List Nat × Spec) := [([1, 1, 1, 1, 1, 1], j0T)]
theorem wp_eq (Aa0 : Option Addr) (na0 : Nat) (ca0 : Nat) (xa1 : Int) (w : World) (Q : Ending → World → Prop) :
    wp Aa0 na0 ca0 xa1 w Q = codeW Try.prog hT 121 D (tab tb) [] body (topQ Try.prog hT 121 [.tmp 4] Q) (argsF [.slice Aa0 na0 ca0, .int .i64 xa1]) w := by kernel_rfl
theorem ok (Aa0 : Option Addr) (na0 : Nat) (ca0 : Nat) (xa1 : Int) (w : World) (Q : Ending → World → Prop) (h : wp Aa0 na0 ca0 xa1 w Q) : Calls Try.prog 10 #[.slice Aa0 na0 ca0, .int .i64 xa1] w Q := by
  rw [wp_eq] at h
  exact calls_of_codeW (c := body) (rs := [.tmp 4]) Try.func10 (by kernel_rfl) (by kernel_rfl) (by kernel_rfl) (by kernel_rfl) (by kernel_rfl) (tab_snd (by
    intro x hx
    simp only [tb, List.mem_cons, List.not_mem_nil, or_false] at hx
    subst hx
    exact j0_snd)) (by kernel_rfl) h
end f_law01_NumOnly
namespace f_law01_NumOrder
/-! skein/skeinlaw01.NumOrder: function 11 -/
noncomputable def body : Code := (Try.f11.body).getD .skip
def wp (xa0 : Int) (xa1 : Int) (xa2_0 : Int) (xa2_1 : Int) (xa2_2 : Int) (xa2_3 : Int) (xa2_4 : Int) (xa2_5 : Int) (xa2_6 : Int) (xa2_7 : Int) (w : World) (Q : Ending → World → Prop) : Prop :=
  alW w (.cells #[.int .u8 xa2_0, .int .u8 xa2_1, .int .u8 xa2_2, .int .u8 xa2_3, .int .u8 xa2_4, .int .u8 xa2_5, .int .u8 xa2_6, .int .u8 xa2_7] 57) fun B1 w2 =>
  Calls Try.prog 22 #[] w2 fun e3 w4 => ∃ (b5 : Bool), e3 = .returned (.bool b5) ∧ (
  sel (!b5) (
  Q (.returned (.bool false)) w4) (
  Calls Try.prog 39 #[.int .i64 xa0] w4 fun e6 w7 => ∃ (x8_0 : Int) (x8_1 : Int) (x8_2 : Int) (x8_3 : Int) (x8_4 : Int) (x8_5 : Int) (x8_6 : Int) (x8_7 : Int), e6 = .returned (.agg #[.int .u8 x8_0, .int .u8 x8_1, .int .u8 x8_2, .int .u8 x8_3, .int .u8 x8_4, .int .u8 x8_5, .int .u8 x8_6, .int .u8 x8_7]) ∧ (
  Calls Try.prog 39 #[.int .i64 xa1] w7 fun e9 w10 => ∃ (x11_0 : Int) (x11_1 : Int) (x11_2 : Int) (x11_3 : Int) (x11_4 : Int) (x11_5 : Int) (x11_6 : Int) (x11_7 : Int), e9 = .returned (.agg #[.int .u8 x11_0, .int .u8 x11_1, .int .u8 x11_2, .int .u8 x11_3, .int .u8 x11_4, .int .u8 x11_5, .int .u8 x11_6, .int .u8 x11_7]) ∧ (
  alW w10 (.cells #[.int .u8 (0 : Int), .int .u8 (0 : Int), .int .u8 (0 : Int), .int .u8 (0 : Int), .int .u8 (0 : Int), .int .u8 (0 : Int), .int .u8 (0 : Int), .int .u8 (0 : Int)] 57) fun B12 w13 =>
  alW w13 (.cells #[.int .u8 (0 : Int), .int .u8 (0 : Int), .int .u8 (0 : Int), .int .u8 (0 : Int), .int .u8 (0 : Int), .int .u8 (0 : Int), .int .u8 (0 : Int), .int .u8 (0 : Int)] 57) fun B14 w15 =>
  stW w15 (⟨B12, 0, Option.none⟩ : Addr) (.int .u8 x8_0) fun w16 =>
  stW w16 ((⟨B12, 0, Option.none⟩ : Addr).add 1) (.int .u8 x8_1) fun w17 =>
  stW w17 ((⟨B12, 0, Option.none⟩ : Addr).add 2) (.int .u8 x8_2) fun w18 =>
  stW w18 ((⟨B12, 0, Option.none⟩ : Addr).add 3) (.int .u8 x8_3) fun w19 =>
  stW w19 ((⟨B12, 0, Option.none⟩ : Addr).add 4) (.int .u8 x8_4) fun w20 =>
  stW w20 ((⟨B12, 0, Option.none⟩ : Addr).add 5) (.int .u8 x8_5) fun w21 =>
  stW w21 ((⟨B12, 0, Option.none⟩ : Addr).add 6) (.int .u8 x8_6) fun w22 =>
  stW w22 ((⟨B12, 0, Option.none⟩ : Addr).add 7) (.int .u8 x8_7) fun w23 =>
  stW w23 (⟨B14, 0, Option.none⟩ : Addr) (.int .u8 x11_0) fun w24 =>
  stW w24 ((⟨B14, 0, Option.none⟩ : Addr).add 1) (.int .u8 x11_1) fun w25 =>
  stW w25 ((⟨B14, 0, Option.none⟩ : Addr).add 2) (.int .u8 x11_2) fun w26 =>
  stW w26 ((⟨B14, 0, Option.none⟩ : Addr).add 3) (.int .u8 x11_3) fun w27 =>
  stW w27 ((⟨B14, 0, Option.none⟩ : Addr).add 4) (.int .u8 x11_4) fun w28 =>
  stW w28 ((⟨B14, 0, Option.none⟩ : Addr).add 5) (.int .u8 x11_5) fun w29 =>
  stW w29 ((⟨B14, 0, Option.none⟩ : Addr).add 6) (.int .u8 x11_6) fun w30 =>
  stW w30 ((⟨B14, 0, Option.none⟩ : Addr).add 7) (.int .u8 x11_7) fun w31 =>
  drW w31 fun w32 =>
  ∃ S33 : World → Prop, S33 w32 ∧ (
  Calls Try.prog 40 #[.int .i64 xa0] w32 fun e34 w35 => ∃ (A36 : Option Addr) (n36 : Nat) (c36 : Nat), e34 = .returned (.slice A36 n36 c36) ∧ (
  S33 w35 ∧ (
  Calls Try.prog 37 #[.slice (some (slB (⟨B12, 0, Option.none⟩ : Addr) 0 8 1)) (8 - 0) (8 - 0), .slice A36 n36 c36] w35 fun e37 w38 => ∃ (b39 : Bool), e37 = .returned (.bool b39) ∧ (
  S33 w38 ∧ (
  sel (!b39) (
  S33 w38 ∧ (
  S33 w38 ∧ (
  S33 w38 ∧ (
  Q (.returned (.bool false)) w38)))) (
  hdI S33 (⟨B12, 0, Option.none⟩ : Addr) .u8 fun x40 =>
  hdI S33 ((⟨B12, 0, Option.none⟩ : Addr).add 1) .u8 fun x41 =>
  hdI S33 ((⟨B12, 0, Option.none⟩ : Addr).add 2) .u8 fun x42 =>
  hdI S33 ((⟨B12, 0, Option.none⟩ : Addr).add 3) .u8 fun x43 =>
  hdI S33 ((⟨B12, 0, Option.none⟩ : Addr).add 4) .u8 fun x44 =>
  hdI S33 ((⟨B12, 0, Option.none⟩ : Addr).add 5) .u8 fun x45 =>
  hdI S33 ((⟨B12, 0, Option.none⟩ : Addr).add 6) .u8 fun x46 =>
  hdI S33 ((⟨B12, 0, Option.none⟩ : Addr).add 7) .u8 fun x47 =>
  Calls Try.prog 41 #[.agg #[.int .u8 x40, .int .u8 x41, .int .u8 x42, .int .u8 x43, .int .u8 x44, .int .u8 x45, .int .u8 x46, .int .u8 x47]] w38 fun e48 w49 => ∃ (x50 : Int), e48 = .returned (.int .i64 x50) ∧ (
  S33 w49 ∧ (
  sel (x50 != xa0) (
  S33 w49 ∧ (
  S33 w49 ∧ (
  Q (.returned (.bool false)) w49))) (
  hdI S33 (⟨B1, 0, Option.none⟩ : Addr) .u8 fun x51 =>
  hdI S33 ((⟨B1, 0, Option.none⟩ : Addr).add 1) .u8 fun x52 =>
  hdI S33 ((⟨B1, 0, Option.none⟩ : Addr).add 2) .u8 fun x53 =>
  hdI S33 ((⟨B1, 0, Option.none⟩ : Addr).add 3) .u8 fun x54 =>
  hdI S33 ((⟨B1, 0, Option.none⟩ : Addr).add 4) .u8 fun x55 =>
  hdI S33 ((⟨B1, 0, Option.none⟩ : Addr).add 5) .u8 fun x56 =>
  hdI S33 ((⟨B1, 0, Option.none⟩ : Addr).add 6) .u8 fun x57 =>
  hdI S33 ((⟨B1, 0, Option.none⟩ : Addr).add 7) .u8 fun x58 =>
  hdI S33 (⟨B1, 0, Option.none⟩ : Addr) .u8 fun x59 =>
  hdI S33 ((⟨B1, 0, Option.none⟩ : Addr).add 1) .u8 fun x60 =>
  hdI S33 ((⟨B1, 0, Option.none⟩ : Addr).add 2) .u8 fun x61 =>
  hdI S33 ((⟨B1, 0, Option.none⟩ : Addr).add 3) .u8 fun x62 =>
  hdI S33 ((⟨B1, 0, Option.none⟩ : Addr).add 4) .u8 fun x63 =>
  hdI S33 ((⟨B1, 0, Option.none⟩ : Addr).add 5) .u8 fun x64 =>
  hdI S33 ((⟨B1, 0, Option.none⟩ : Addr).add 6) .u8 fun x65 =>
  hdI S33 ((⟨B1, 0, Option.none⟩ : Addr).add 7) .u8 fun x66 =>
  Calls Try.prog 41 #[.agg #[.int .u8 x51, .int .u8 x52, .int .u8 x53, .int .u8 x54, .int .u8 x55, .int .u8 x56, .int .u8 x57, .int .u8 x58]] w49 fun e67 w68 => ∃ (x69 : Int), e67 = .returned (.int .i64 x69) ∧ (
  S33 w68 ∧ (
  Calls Try.prog 39 #[.int .i64 x69] w68 fun e70 w71 => ∃ (x72_0 : Int) (x72_1 : Int) (x72_2 : Int) (x72_3 : Int) (x72_4 : Int) (x72_5 : Int) (x72_6 : Int) (x72_7 : Int), e70 = .returned (.agg #[.int .u8 x72_0, .int .u8 x72_1, .int .u8 x72_2, .int .u8 x72_3, .int .u8 x72_4, .int .u8 x72_5, .int .u8 x72_6, .int .u8 x72_7]) ∧ (
  S33 w71 ∧ (
  sel (!((x72_0 == x59) && ((x72_1 == x60) && ((x72_2 == x61) && ((x72_3 == x62) && ((x72_4 == x63) && ((x72_5 == x64) && ((x72_6 == x65) && ((x72_7 == x66) && true))))))))) (
  Q (.returned (.bool false)) w71) (
  drW w71 fun w73 =>
  Calls Try.prog 42 #[.slice (some (slB (⟨B12, 0, Option.none⟩ : Addr) 0 8 1)) (8 - 0) (8 - 0), .slice (some (slB (⟨B14, 0, Option.none⟩ : Addr) 0 8 1)) (8 - 0) (8 - 0)] w73 fun e75 w76 => ∃ (x77 : Int), e75 = .returned (.int .i64 x77) ∧ (
  sel (decide (xa0 < xa1)) (
  sel (decide (x77 < (0 : Int))) (
  Q (.returned (.bool true)) w76) (
  sel (xa0 == xa1) (
  sel (x77 == (0 : Int)) (
  Q (.returned (.bool true)) w76) (
  sel (decide (xa0 > xa1)) (
  Q (.returned (.bool (decide (x77 > (0 : Int))))) w76) (
  Q (.returned (.bool false)) w76))) (
  sel (decide (xa0 > xa1)) (
  Q (.returned (.bool (decide (x77 > (0 : Int))))) w76) (
  Q (.returned (.bool false)) w76)))) (
  sel (xa0 == xa1) (
  sel (x77 == (0 : Int)) (
  Q (.returned (.bool true)) w76) (
  sel (decide (xa0 > xa1)) (
  Q (.returned (.bool (decide (x77 > (0 : Int))))) w76) (
  Q (.returned (.bool false)) w76))) (
  sel (decide (xa0 > xa1)) (
  Q (.returned (.bool (decide (x77 > (0 : Int))))) w76) (
  Q (.returned (.bool false)) w76))))))))))))))))))))))
def D : Nat → Option DH := dtab [(4, .held [.fst 0, .fst 1, .eff 2, .eff 3, .fst 4, .fst 5, .fst 6, .fst 8, .eff 7, .fst 9, .fst 10, .fst 11, .fst 12, .fst 15, .eff 13, .eff 14] [.fst 16, .fst 17]), (6, .simple [] [.fst 0, .fst 1, .eff 2, .fst 3])]
def tb : List (List Nat × Spec) := []
theorem wp_eq (xa0 : Int) (xa1 : Int) (xa2_0 : Int) (xa2_1 : Int) (xa2_2 : Int) (xa2_3 : Int) (xa2_4 : Int) (xa2_5 : Int) (xa2_6 : Int) (xa2_7 : Int) (w : World) (Q : Ending → World → Prop) :
    wp xa0 xa1 xa2_0 xa2_1 xa2_2 xa2_3 xa2_4 xa2_5 xa2_6 xa2_7 w Q = codeW Try.prog hT 62 D (tab tb) [] body (topQ Try.prog hT 62 [.tmp 6] Q) (argsF [.int .i64 xa0, .int .i64 xa1, .agg #[.int .u8 xa2_0, .int .u8 xa2_1, .int .u8 xa2_2, .int .u8 xa2_3, .int .u8 xa2_4, .int .u8 xa2_5, .int .u8 xa2_6, .int .u8 xa2_7]]) w := by kernel_rfl
theorem ok (xa0 : Int) (xa1 : Int) (xa2_0 : Int) (xa2_1 : Int) (xa2_2 : Int) (xa2_3 : Int) (xa2_4 : Int) (xa2_5 : Int) (xa2_6 : Int) (xa2_7 : Int) (w : World) (Q : Ending → World → Prop) (h : wp xa0 xa1 xa2_0 xa2_1 xa2_2 xa2_3 xa2_4 xa2_5 xa2_6 xa2_7 w Q) : Calls Try.prog 11 #[.int .i64 xa0, .int .i64 xa1, .agg #[.int .u8 xa2_0, .int .u8 xa2_1, .int .u8 xa2_2, .int .u8 xa2_3, .int .u8 xa2_4, .int .u8 xa2_5, .int .u8 xa2_6, .int .u8 xa2_7]] w Q := by
  rw [wp_eq] at h
  exact calls_of_codeW (c := body) (rs := [.tmp 6]) Try.func11 (by kernel_rfl) (by kernel_rfl) (by kernel_rfl) (by kernel_rfl) (by kernel_rfl) (tab_snd (by
    intro x hx
    simp only [tb, List.not_mem_nil] at hx
    )) (by kernel_rfl) h
end f_law01_NumOrder
namespace f_law02_alive
/-! skein/skeinlaw02.alive: function 12 -/
noncomputable def body : Code := (Try.f12.body).getD .skip
def wp  (w : World) (Q : Ending → World → Prop) : Prop :=
  alW w (.cells #[.int .u8 (0 : Int), .int .u8 (0 : Int), .int .u8 (0 : Int), .int .u8 (0 : Int)] 5) fun B1 w2 =>
  Calls Try.prog 20 #[.slice (some (⟨B1, 0, Option.none⟩ : Addr)) 4 4] w2 fun e3 w4 => ∃ (A5_0 : Option Addr) (n5_0 : Nat) (c5_0 : Nat) (b5_1 : Bool), e3 = .returned (.tuple #[.slice A5_0 n5_0 c5_0, .bool b5_1]) ∧ (
  alW w4 (.cells #[.int .u8 (1 : Int), .int .u8 (0 : Int), .int .u8 (0 : Int), .int .u8 (0 : Int)] 5) fun B6 w7 =>
  Calls Try.prog 20 #[.slice (some (⟨B6, 0, Option.none⟩ : Addr)) 4 4] w7 fun e8 w9 => ∃ (A10_0 : Option Addr) (n10_0 : Nat) (c10_0 : Nat) (b10_1 : Bool), e8 = .returned (.tuple #[.slice A10_0 n10_0 c10_0, .bool b10_1]) ∧ (
  alW w9 (.cells #[.int .u8 (113 : Int)] 5) fun B11 w12 =>
  Runs Try.prog (Go.convert 22 22 (.slice (some (⟨B11, 0, Option.none⟩ : Addr)) 1 1)) w12 fun v14 w13 => ∃ (A15 : Option Addr) (n15 : Nat) (c15 : Nat), v14 = (.slice A15 n15 c15) ∧ (
  Calls Try.prog 18 #[.slice A15 n15 c15] w13 fun e16 w17 => ∃ (A18 : Option Addr) (n18 : Nat) (c18 : Nat), e16 = .returned (.slice A18 n18 c18) ∧ (
  Calls Try.prog 20 #[.slice A18 n18 c18] w17 fun e19 w20 => ∃ (A21_0 : Option Addr) (n21_0 : Nat) (c21_0 : Nat) (b21_1 : Bool), e19 = .returned (.tuple #[.slice A21_0 n21_0 c21_0, .bool b21_1]) ∧ (
  alW w20 (.cells #[.int .u8 (49 : Int), .int .u8 (50 : Int), .int .u8 (51 : Int), .int .u8 (52 : Int)] 5) fun B22 w23 =>
  Runs Try.prog (Go.convert 22 22 (.slice (some (⟨B22, 0, Option.none⟩ : Addr)) 4 4)) w23 fun v25 w24 => ∃ (A26 : Option Addr) (n26 : Nat) (c26 : Nat), v25 = (.slice A26 n26 c26) ∧ (
  alW w24 (.cells #[.int .u8 (53 : Int), .int .u8 (54 : Int), .int .u8 (55 : Int), .int .u8 (56 : Int), .int .u8 (57 : Int)] 5) fun B27 w28 =>
  Runs Try.prog (Go.convert 22 22 (.slice (some (⟨B27, 0, Option.none⟩ : Addr)) 5 5)) w28 fun v30 w29 => ∃ (A31 : Option Addr) (n31 : Nat) (c31 : Nat), v30 = (.slice A31 n31 c31) ∧ (
  alW w29 (.cells #[.slice A26 n26 c26, .slice A31 n31 c31] 22) fun B32 w33 =>
  Calls Try.prog 15 #[.slice (some (⟨B32, 0, Option.none⟩ : Addr)) 2 2] w33 fun e34 w35 => ∃ (x36 : Int), e34 = .returned (.int .u32 x36) ∧ (
  sel (x36 == (3421780262 : Int)) (
  sel b5_1 (
  sel (!b10_1) (
  sel b21_1 (
  Runs Try.prog (Go.convert 22 9 (.slice A21_0 n21_0 c21_0)) w35 fun v38 w37 => ∃ (s39 : ByteArray), v38 = (.string s39) ∧ (
  Q (.returned (.bool (s39.toList == (⟨#[113]⟩ : ByteArray).toList))) w37)) (
  Q (.returned (.bool false)) w35)) (
  Q (.returned (.bool false)) w35)) (
  Q (.returned (.bool false)) w35)) (
  Q (.returned (.bool false)) w35)))))))))
def D : Nat → Option DH := dtab []
def tb : List (List Nat × Spec) := []
theorem wp_eq  (w : World) (Q : Ending → World → Prop) :
    wp  w Q = codeW Try.prog hT 46 D (tab tb) [] body (topQ Try.prog hT 46 [.tmp 0] Q) (argsF []) w := by kernel_rfl
theorem ok  (w : World) (Q : Ending → World → Prop) (h : wp  w Q) : Calls Try.prog 12 #[] w Q := by
  rw [wp_eq] at h
  exact calls_of_codeW (c := body) (rs := [.tmp 0]) Try.func12 (by kernel_rfl) (by kernel_rfl) (by kernel_rfl) (by kernel_rfl) (by kernel_rfl) (tab_snd (by
    intro x hx
    simp only [tb, List.not_mem_nil] at hx
    )) (by kernel_rfl) h
end f_law02_alive
namespace f_ref01_Wide
/-! skein/skeinref01.Wide: function 13 -/
noncomputable def body : Code := (Try.f13.body).getD .skip
def l0 : Nat → Option Addr → Nat → Nat → Int → World → ((Option Addr) → Nat → Nat → World → Prop) → Prop
  | 0, _, _, _, _, _, _ => False
  | k + 1, At3, nt3, ct3, xt4, w, K0 =>
    sel (decide (xt4 < (64 : Int))) (
    alW w (.cells #[.int .u8 (IntKind.u8.wrap (IntKind.i64.wrap ((208 : Int) + (xt4.tmod (9 : Int)))))] 5) fun B4 w5 =>
    Runs Try.prog (Builtin.append_ #[22, 22] 22 #[.slice At3 nt3 ct3, .slice (some (⟨B4, 0, Option.none⟩ : Addr)) 1 1]) w5 fun v7 w6 => ∃ (A8 : Option Addr) (n8 : Nat) (c8 : Nat), v7 = (.slice A8 n8 c8) ∧ (
    l0 k A8 n8 c8 (IntKind.i64.wrap (xt4 + (1 : Int))) w6 K0)) (
    K0 At3 nt3 ct3 w)
def wp (Aa0 : Option Addr) (na0 : Nat) (ca0 : Nat) (w : World) (Q : Ending → World → Prop) : Prop :=
  Calls Try.prog 38 #[.slice Aa0 na0 ca0] w fun e1 w2 => ∃ (A3 : Option Addr) (n3 : Nat) (c3 : Nat), e1 = .returned (.slice A3 n3 c3) ∧ (
  ∃ k11 : Nat, l0 k11 A3 n3 c3 (0 : Int) w2 (fun (A9 : Option Addr) (n9 : Nat) (c9 : Nat) (w10 : World) => ∀ _ : Fr,
  Q (.returned (.slice A9 n9 c9)) w10))
def D : Nat → Option DH := dtab []
def l0LO : LO := ⟨[], [], [(0, [3])], []⟩
def l0Tk (k : Nat) : Spec := fun Q σ w =>
  gSlice (σ 3) fun At3 nt3 ct3 =>
  gInt .i64 (σ 4) fun xt4 =>
  l0 k At3 nt3 ct3 xt4 w (fun (Aq3 : Option Addr) (nq3 : Nat) (cq3 : Nat) (w : World) => ∀ d : Fr, Q (.exit 0) (ov d [(3, .slice Aq3 nq3 cq3)]) w)
def l0T : Spec := fun Q σ w => ∃ k, l0Tk k Q σ w
def l0tb : List (List Nat × Spec) := []
noncomputable def l0b : Code := (subC [0, 0, 1, 0, 1, 1] body).getD .skip
theorem l0_eq (k : Nat) (At3 : Option Addr) (nt3 : Nat) (ct3 : Nat) (xt4 : Int) (Q : PQ) (σ : Fr) (w : World) :
    l0 (k + 1) At3 nt3 ct3 xt4 w (fun (Aq3 : Option Addr) (nq3 : Nat) (cq3 : Nat) (w : World) => ∀ d : Fr, Q (.exit 0) (ov d [(3, .slice Aq3 nq3 cq3)]) w) = codeW Try.prog hT 19 D (tab l0tb) [0, 0, 1, 0, 1, 1] l0b (thenQ (l0Tk k Q) (widen l0LO Q)) (ov σ [(3, .slice At3 nt3 ct3), (4, .int .i64 xt4)]) w := by kernel_rfl
theorem l0_snd : ∀ c, subC [0, 1, 0, 1, 1] body = some c → Snd Try.prog 19 c l0T := by
  refine loop_of (hT := hT) (D := D) (l := l0tb) (b := l0b) (lo := l0LO) (by kernel_rfl) (by
    intro x hx
    simp only [l0tb, List.not_mem_nil] at hx
    ) (by kernel_rfl) (by kernel_rfl) ?_ ?_
  · intro Q σ w h
    unfold l0Tk at h
    obtain ⟨At3, nt3, ct3, h3, hn⟩ := gSlice_elim h
    clear h
    have h := hn
    clear hn
    obtain ⟨xt4, h4, hn⟩ := gInt_elim h
    clear h
    have h := hn
    clear hn
    exact h
  · intro k Q σ w h
    unfold l0Tk at h
    obtain ⟨At3, nt3, ct3, h3, hn⟩ := gSlice_elim h
    clear h
    have h := hn
    clear hn
    obtain ⟨xt4, h4, hn⟩ := gInt_elim h
    clear h
    have h := hn
    clear hn
    rw [l0_eq (σ := σ)] at h
    have e : (ov σ [(3, .slice At3 nt3 ct3), (4, .int .i64 xt4)]) = σ := ov_self (by simp [h3, h4])
    rw [e] at h
    exact h
def tb : List (List Nat × Spec) := [([0, 1, 0, 1, 1], l0T)]
theorem wp_eq (Aa0 : Option Addr) (na0 : Nat) (ca0 : Nat) (w : World) (Q : Ending → World → Prop) :
    wp Aa0 na0 ca0 w Q = codeW Try.prog hT 19 D (tab tb) [] body (topQ Try.prog hT 19 [.tmp 2] Q) (argsF [.slice Aa0 na0 ca0]) w := by kernel_rfl
theorem ok (Aa0 : Option Addr) (na0 : Nat) (ca0 : Nat) (w : World) (Q : Ending → World → Prop) (h : wp Aa0 na0 ca0 w Q) : Calls Try.prog 13 #[.slice Aa0 na0 ca0] w Q := by
  rw [wp_eq] at h
  exact calls_of_codeW (c := body) (rs := [.tmp 2]) Try.func13 (by kernel_rfl) (by kernel_rfl) (by kernel_rfl) (by kernel_rfl) (by kernel_rfl) (tab_snd (by
    intro x hx
    simp only [tb, List.mem_cons, List.not_mem_nil, or_false] at hx
    subst hx
    exact l0_snd)) (by kernel_rfl) h
end f_ref01_Wide
namespace f_ref02_Sum
/-! skein/skeinref02.Sum: function 14 -/
noncomputable def body : Code := (Try.f14.body).getD .skip
def l1 : Nat → Int → Int → World → (Int → World → Prop) → Prop
  | 0, _, _, _, _ => False
  | k + 1, xt3, xt5, w, K2 =>
    sel (decide (xt5 < (8 : Int))) (
    sel ((xt3.tmod (2 : Int)) == (1 : Int)) (
    l1 k (bxor .u32 (IntKind.u32.wrap (xt3.tdiv (2 : Int))) (3988292384 : Int)) (IntKind.i64.wrap (xt5 + (1 : Int))) w K2) (
    l1 k (IntKind.u32.wrap (xt3.tdiv (2 : Int))) (IntKind.i64.wrap (xt5 + (1 : Int))) w K2)) (
    K2 xt3 w)
def l0 : Nat → Option Addr → Nat → Nat → Int → Int → World → (Int → World → Prop) → Prop
  | 0, _, _, _, _, _, _, _ => False
  | k + 1, At0, nt0, ct0, xt3, xt4, w, K0 =>
    sel (decide (xt4 < (nt0 : Int))) (
    optB At0 fun a1 =>
    req (decide (0 ≤ xt4 ∧ xt4 < (nt0 : Int))) <|
    ldI w (a1.add (xt4.toNat * 1)) .u8 fun x2 =>
    ∃ k5 : Nat, l1 k5 (bxor .u32 xt3 (IntKind.u32.wrap x2)) (0 : Int) w (fun (x3 : Int) (w4 : World) => ∀ _ : Fr,
    l0 k At0 nt0 ct0 x3 (IntKind.i64.wrap (xt4 + (1 : Int))) w4 K0)) (
    K0 xt3 w)
def wp (Aa0 : Option Addr) (na0 : Nat) (ca0 : Nat) (w : World) (Q : Ending → World → Prop) : Prop :=
  ∃ k8 : Nat, l0 k8 Aa0 na0 ca0 (4294967295 : Int) (0 : Int) w (fun (x6 : Int) (w7 : World) => ∀ _ : Fr,
  Q (.returned (.int .u32 (bxor .u32 x6 (4294967295 : Int)))) w7)
def D : Nat → Option DH := dtab []
def l1LO : LO := ⟨[], [], [(2, [0, 3, 4])], []⟩
def l1Tk (k : Nat) : Spec := fun Q σ w =>
  gInt .u32 (σ 3) fun xt3 =>
  gInt .i64 (σ 5) fun xt5 =>
  l1 k xt3 xt5 w (fun (xq3 : Int) (w : World) => ∀ d : Fr, Q (.exit 2) (ov d [(0, σ 0), (3, .int .u32 xq3), (4, σ 4)]) w)
def l1T : Spec := fun Q σ w => ∃ k, l1Tk k Q σ w
def l1tb : List (List Nat × Spec) := []
noncomputable def l1b : Code := (subC [0, 0, 1, 1, 0, 0, 1, 0, 0, 1, 0, 1, 1] body).getD .skip
theorem l1_eq (k : Nat) (xt3 : Int) (xt5 : Int) (Q : PQ) (σ : Fr) (w : World) :
    l1 (k + 1) xt3 xt5 w (fun (xq3 : Int) (w : World) => ∀ d : Fr, Q (.exit 2) (ov d [(0, σ 0), (3, .int .u32 xq3), (4, σ 4)]) w) = codeW Try.prog hT 33 D (tab l1tb) [0, 0, 1, 1, 0, 0, 1, 0, 0, 1, 0, 1, 1] l1b (thenQ (l1Tk k Q) (widen l1LO Q)) (ov σ [(3, .int .u32 xt3), (5, .int .i64 xt5)]) w := by kernel_rfl
theorem l1_snd : ∀ c, subC [0, 1, 1, 0, 0, 1, 0, 0, 1, 0, 1, 1] body = some c → Snd Try.prog 33 c l1T := by
  refine loop_of (hT := hT) (D := D) (l := l1tb) (b := l1b) (lo := l1LO) (by kernel_rfl) (by
    intro x hx
    simp only [l1tb, List.not_mem_nil] at hx
    ) (by kernel_rfl) (by kernel_rfl) ?_ ?_
  · intro Q σ w h
    unfold l1Tk at h
    obtain ⟨xt3, h3, hn⟩ := gInt_elim h
    clear h
    have h := hn
    clear hn
    obtain ⟨xt5, h5, hn⟩ := gInt_elim h
    clear h
    have h := hn
    clear hn
    exact h
  · intro k Q σ w h
    unfold l1Tk at h
    obtain ⟨xt3, h3, hn⟩ := gInt_elim h
    clear h
    have h := hn
    clear hn
    obtain ⟨xt5, h5, hn⟩ := gInt_elim h
    clear h
    have h := hn
    clear hn
    rw [l1_eq (σ := σ)] at h
    have e : (ov σ [(3, .int .u32 xt3), (5, .int .i64 xt5)]) = σ := ov_self (by simp [h3, h5])
    rw [e] at h
    exact h
def l0LO : LO := ⟨[], [], [(0, [3])], []⟩
def l0Tk (k : Nat) : Spec := fun Q σ w =>
  gSlice (σ 0) fun At0 nt0 ct0 =>
  gInt .u32 (σ 3) fun xt3 =>
  gInt .i64 (σ 4) fun xt4 =>
  l0 k At0 nt0 ct0 xt3 xt4 w (fun (xq3 : Int) (w : World) => ∀ d : Fr, Q (.exit 0) (ov d [(3, .int .u32 xq3)]) w)
def l0T : Spec := fun Q σ w => ∃ k, l0Tk k Q σ w
def l0tb : List (List Nat × Spec) := [([0, 1, 1, 0, 0, 1, 0, 0, 1, 0, 1, 1], l1T)]
noncomputable def l0b : Code := (subC [0, 0, 1, 0, 1, 1] body).getD .skip
theorem l0_eq (k : Nat) (At0 : Option Addr) (nt0 : Nat) (ct0 : Nat) (xt3 : Int) (xt4 : Int) (Q : PQ) (σ : Fr) (w : World) :
    l0 (k + 1) At0 nt0 ct0 xt3 xt4 w (fun (xq3 : Int) (w : World) => ∀ d : Fr, Q (.exit 0) (ov d [(3, .int .u32 xq3)]) w) = codeW Try.prog hT 33 D (tab l0tb) [0, 0, 1, 0, 1, 1] l0b (thenQ (l0Tk k Q) (widen l0LO Q)) (ov σ [(0, .slice At0 nt0 ct0), (3, .int .u32 xt3), (4, .int .i64 xt4)]) w := by kernel_rfl
theorem l0_snd : ∀ c, subC [0, 1, 0, 1, 1] body = some c → Snd Try.prog 33 c l0T := by
  refine loop_of (hT := hT) (D := D) (l := l0tb) (b := l0b) (lo := l0LO) (by kernel_rfl) (by
    intro x hx
    simp only [l0tb, List.mem_cons, List.not_mem_nil, or_false] at hx
    subst hx
    exact l1_snd) (by kernel_rfl) (by kernel_rfl) ?_ ?_
  · intro Q σ w h
    unfold l0Tk at h
    obtain ⟨At0, nt0, ct0, h0, hn⟩ := gSlice_elim h
    clear h
    have h := hn
    clear hn
    obtain ⟨xt3, h3, hn⟩ := gInt_elim h
    clear h
    have h := hn
    clear hn
    obtain ⟨xt4, h4, hn⟩ := gInt_elim h
    clear h
    have h := hn
    clear hn
    exact h
  · intro k Q σ w h
    unfold l0Tk at h
    obtain ⟨At0, nt0, ct0, h0, hn⟩ := gSlice_elim h
    clear h
    have h := hn
    clear hn
    obtain ⟨xt3, h3, hn⟩ := gInt_elim h
    clear h
    have h := hn
    clear hn
    obtain ⟨xt4, h4, hn⟩ := gInt_elim h
    clear h
    have h := hn
    clear hn
    rw [l0_eq (σ := σ)] at h
    have e : (ov σ [(0, .slice At0 nt0 ct0), (3, .int .u32 xt3), (4, .int .i64 xt4)]) = σ := ov_self (by simp [h0, h3, h4])
    rw [e] at h
    exact h
def tb : List (List Nat × Spec) := [([0, 1, 1, 0, 0, 1, 0, 0, 1, 0, 1, 1], l1T), ([0, 1, 0, 1, 1], l0T)]
theorem wp_eq (Aa0 : Option Addr) (na0 : Nat) (ca0 : Nat) (w : World) (Q : Ending → World → Prop) :
    wp Aa0 na0 ca0 w Q = codeW Try.prog hT 33 D (tab tb) [] body (topQ Try.prog hT 33 [.tmp 2] Q) (argsF [.slice Aa0 na0 ca0]) w := by kernel_rfl
theorem ok (Aa0 : Option Addr) (na0 : Nat) (ca0 : Nat) (w : World) (Q : Ending → World → Prop) (h : wp Aa0 na0 ca0 w Q) : Calls Try.prog 14 #[.slice Aa0 na0 ca0] w Q := by
  rw [wp_eq] at h
  exact calls_of_codeW (c := body) (rs := [.tmp 2]) Try.func14 (by kernel_rfl) (by kernel_rfl) (by kernel_rfl) (by kernel_rfl) (by kernel_rfl) (tab_snd (by
    intro x hx
    simp only [tb, List.mem_cons, List.not_mem_nil, or_false] at hx
    rcases hx with rfl | rfl
    · exact l1_snd
    · exact l0_snd)) (by kernel_rfl) h
end f_ref02_Sum
namespace f_crc_Sum
/-! skein/crc.Sum: function 15 -/
noncomputable def body : Code := (Try.f15.body).getD .skip
def l2 : Nat → Int → Int → World → (Int → World → Prop) → Prop
  | 0, _, _, _, _ => False
  | k + 1, xt3, xt24, w, K4 =>
    sel (decide (xt24 < (8 : Int))) (
    Calls Try.prog 43 #[.int .u32 xt3] w fun e5 w6 => ∃ (x7 : Int), e5 = .returned (.int .u32 x7) ∧ (
    l2 k x7 (IntKind.i64.wrap (xt24 + (1 : Int))) w6 K4)) (
    K4 xt3 w)
def l1 : Nat → Int → Option Addr → Nat → Nat → Int → Int → World → (Int → World → Prop) → Prop
  | 0, _, _, _, _, _, _, _, _ => False
  | k + 1, xt3, At14, nt14, ct14, xt15, xt16, w, K2 =>
    sel (decide (xt16 < xt15)) (
    optB At14 fun a3 =>
    req (decide (0 ≤ xt16 ∧ xt16 < (nt14 : Int))) <|
    ldI w (a3.add (xt16.toNat * 1)) .u8 fun x4 =>
    ∃ k10 : Nat, l2 k10 (bxor .u32 xt3 (IntKind.u32.wrap x4)) (0 : Int) w (fun (x8 : Int) (w9 : World) => ∀ _ : Fr,
    l1 k x8 At14 nt14 ct14 xt15 (IntKind.i64.wrap (xt16 + (1 : Int))) w9 K2)) (
    K2 xt3 w)
def l0 : Nat → Int → Option Addr → Nat → Nat → Int → Int → World → (Int → World → Prop) → Prop
  | 0, _, _, _, _, _, _, _, _ => False
  | k + 1, xt3, At8, nt8, ct8, xt9, xt10, w, K0 =>
    sel (decide (xt10 < xt9)) (
    optB At8 fun a1 =>
    req (decide (0 ≤ xt10 ∧ xt10 < (nt8 : Int))) <|
    ldS w (a1.add (xt10.toNat * 1)) fun A2 n2 c2 =>
    ∃ k13 : Nat, l1 k13 xt3 A2 n2 c2 (n2 : Int) (0 : Int) w (fun (x11 : Int) (w12 : World) => ∀ _ : Fr,
    l0 k x11 At8 nt8 ct8 xt9 (IntKind.i64.wrap (xt10 + (1 : Int))) w12 K0)) (
    K0 xt3 w)
def wp (Aa0 : Option Addr) (na0 : Nat) (ca0 : Nat) (w : World) (Q : Ending → World → Prop) : Prop :=
  ∃ k16 : Nat, l0 k16 (4294967295 : Int) Aa0 na0 ca0 (na0 : Int) (0 : Int) w (fun (x14 : Int) (w15 : World) => ∀ _ : Fr,
  Q (.returned (.int .u32 (bxor .u32 (4294967295 : Int) x14))) w15)
def D : Nat → Option DH := dtab []
def l2LO : LO := ⟨[], [], [(4, [3, 8, 9, 10, 14, 15, 16])], []⟩
def l2Tk (k : Nat) : Spec := fun Q σ w =>
  gInt .u32 (σ 3) fun xt3 =>
  gInt .i64 (σ 24) fun xt24 =>
  l2 k xt3 xt24 w (fun (xq3 : Int) (w : World) => ∀ d : Fr, Q (.exit 4) (ov d [(3, .int .u32 xq3), (8, σ 8), (9, σ 9), (10, σ 10), (14, σ 14), (15, σ 15), (16, σ 16)]) w)
def l2T : Spec := fun Q σ w => ∃ k, l2Tk k Q σ w
def l2tb : List (List Nat × Spec) := []
noncomputable def l2b : Code := (subC [0, 0, 1, 1, 1, 0, 0, 1, 1, 0, 0, 1, 1, 0, 0, 1, 1, 0, 0, 1, 0, 1, 1] body).getD .skip
theorem l2_eq (k : Nat) (xt3 : Int) (xt24 : Int) (Q : PQ) (σ : Fr) (w : World) :
    l2 (k + 1) xt3 xt24 w (fun (xq3 : Int) (w : World) => ∀ d : Fr, Q (.exit 4) (ov d [(3, .int .u32 xq3), (8, σ 8), (9, σ 9), (10, σ 10), (14, σ 14), (15, σ 15), (16, σ 16)]) w) = codeW Try.prog hT 33 D (tab l2tb) [0, 0, 1, 1, 1, 0, 0, 1, 1, 0, 0, 1, 1, 0, 0, 1, 1, 0, 0, 1, 0, 1, 1] l2b (thenQ (l2Tk k Q) (widen l2LO Q)) (ov σ [(3, .int .u32 xt3), (24, .int .i64 xt24)]) w := by kernel_rfl
theorem l2_snd : ∀ c, subC [0, 1, 1, 1, 0, 0, 1, 1, 0, 0, 1, 1, 0, 0, 1, 1, 0, 0, 1, 0, 1, 1] body = some c → Snd Try.prog 33 c l2T := by
  refine loop_of (hT := hT) (D := D) (l := l2tb) (b := l2b) (lo := l2LO) (by kernel_rfl) (by
    intro x hx
    simp only [l2tb, List.not_mem_nil] at hx
    ) (by kernel_rfl) (by kernel_rfl) ?_ ?_
  · intro Q σ w h
    unfold l2Tk at h
    obtain ⟨xt3, h3, hn⟩ := gInt_elim h
    clear h
    have h := hn
    clear hn
    obtain ⟨xt24, h24, hn⟩ := gInt_elim h
    clear h
    have h := hn
    clear hn
    exact h
  · intro k Q σ w h
    unfold l2Tk at h
    obtain ⟨xt3, h3, hn⟩ := gInt_elim h
    clear h
    have h := hn
    clear hn
    obtain ⟨xt24, h24, hn⟩ := gInt_elim h
    clear h
    have h := hn
    clear hn
    rw [l2_eq (σ := σ)] at h
    have e : (ov σ [(3, .int .u32 xt3), (24, .int .i64 xt24)]) = σ := ov_self (by simp [h3, h24])
    rw [e] at h
    exact h
def l1LO : LO := ⟨[], [], [(2, [3, 8, 9, 10])], []⟩
def l1Tk (k : Nat) : Spec := fun Q σ w =>
  gInt .u32 (σ 3) fun xt3 =>
  gSlice (σ 14) fun At14 nt14 ct14 =>
  gInt .i64 (σ 15) fun xt15 =>
  gInt .i64 (σ 16) fun xt16 =>
  l1 k xt3 At14 nt14 ct14 xt15 xt16 w (fun (xq3 : Int) (w : World) => ∀ d : Fr, Q (.exit 2) (ov d [(3, .int .u32 xq3), (8, σ 8), (9, σ 9), (10, σ 10)]) w)
def l1T : Spec := fun Q σ w => ∃ k, l1Tk k Q σ w
def l1tb : List (List Nat × Spec) := [([0, 1, 1, 1, 0, 0, 1, 1, 0, 0, 1, 1, 0, 0, 1, 1, 0, 0, 1, 0, 1, 1], l2T)]
noncomputable def l1b : Code := (subC [0, 0, 1, 1, 0, 0, 1, 1, 0, 0, 1, 0, 1, 1] body).getD .skip
theorem l1_eq (k : Nat) (xt3 : Int) (At14 : Option Addr) (nt14 : Nat) (ct14 : Nat) (xt15 : Int) (xt16 : Int) (Q : PQ) (σ : Fr) (w : World) :
    l1 (k + 1) xt3 At14 nt14 ct14 xt15 xt16 w (fun (xq3 : Int) (w : World) => ∀ d : Fr, Q (.exit 2) (ov d [(3, .int .u32 xq3), (8, σ 8), (9, σ 9), (10, σ 10)]) w) = codeW Try.prog hT 33 D (tab l1tb) [0, 0, 1, 1, 0, 0, 1, 1, 0, 0, 1, 0, 1, 1] l1b (thenQ (l1Tk k Q) (widen l1LO Q)) (ov σ [(3, .int .u32 xt3), (14, .slice At14 nt14 ct14), (15, .int .i64 xt15), (16, .int .i64 xt16)]) w := by kernel_rfl
theorem l1_snd : ∀ c, subC [0, 1, 1, 0, 0, 1, 1, 0, 0, 1, 0, 1, 1] body = some c → Snd Try.prog 33 c l1T := by
  refine loop_of (hT := hT) (D := D) (l := l1tb) (b := l1b) (lo := l1LO) (by kernel_rfl) (by
    intro x hx
    simp only [l1tb, List.mem_cons, List.not_mem_nil, or_false] at hx
    subst hx
    exact l2_snd) (by kernel_rfl) (by kernel_rfl) ?_ ?_
  · intro Q σ w h
    unfold l1Tk at h
    obtain ⟨xt3, h3, hn⟩ := gInt_elim h
    clear h
    have h := hn
    clear hn
    obtain ⟨At14, nt14, ct14, h14, hn⟩ := gSlice_elim h
    clear h
    have h := hn
    clear hn
    obtain ⟨xt15, h15, hn⟩ := gInt_elim h
    clear h
    have h := hn
    clear hn
    obtain ⟨xt16, h16, hn⟩ := gInt_elim h
    clear h
    have h := hn
    clear hn
    exact h
  · intro k Q σ w h
    unfold l1Tk at h
    obtain ⟨xt3, h3, hn⟩ := gInt_elim h
    clear h
    have h := hn
    clear hn
    obtain ⟨At14, nt14, ct14, h14, hn⟩ := gSlice_elim h
    clear h
    have h := hn
    clear hn
    obtain ⟨xt15, h15, hn⟩ := gInt_elim h
    clear h
    have h := hn
    clear hn
    obtain ⟨xt16, h16, hn⟩ := gInt_elim h
    clear h
    have h := hn
    clear hn
    rw [l1_eq (σ := σ)] at h
    have e : (ov σ [(3, .int .u32 xt3), (14, .slice At14 nt14 ct14), (15, .int .i64 xt15), (16, .int .i64 xt16)]) = σ := ov_self (by simp [h3, h14, h15, h16])
    rw [e] at h
    exact h
def l0LO : LO := ⟨[], [], [(0, [3])], []⟩
def l0Tk (k : Nat) : Spec := fun Q σ w =>
  gInt .u32 (σ 3) fun xt3 =>
  gSlice (σ 8) fun At8 nt8 ct8 =>
  gInt .i64 (σ 9) fun xt9 =>
  gInt .i64 (σ 10) fun xt10 =>
  l0 k xt3 At8 nt8 ct8 xt9 xt10 w (fun (xq3 : Int) (w : World) => ∀ d : Fr, Q (.exit 0) (ov d [(3, .int .u32 xq3)]) w)
def l0T : Spec := fun Q σ w => ∃ k, l0Tk k Q σ w
def l0tb : List (List Nat × Spec) := [([0, 1, 1, 1, 0, 0, 1, 1, 0, 0, 1, 1, 0, 0, 1, 1, 0, 0, 1, 0, 1, 1], l2T), ([0, 1, 1, 0, 0, 1, 1, 0, 0, 1, 0, 1, 1], l1T)]
noncomputable def l0b : Code := (subC [0, 0, 1, 0, 1, 1] body).getD .skip
theorem l0_eq (k : Nat) (xt3 : Int) (At8 : Option Addr) (nt8 : Nat) (ct8 : Nat) (xt9 : Int) (xt10 : Int) (Q : PQ) (σ : Fr) (w : World) :
    l0 (k + 1) xt3 At8 nt8 ct8 xt9 xt10 w (fun (xq3 : Int) (w : World) => ∀ d : Fr, Q (.exit 0) (ov d [(3, .int .u32 xq3)]) w) = codeW Try.prog hT 33 D (tab l0tb) [0, 0, 1, 0, 1, 1] l0b (thenQ (l0Tk k Q) (widen l0LO Q)) (ov σ [(3, .int .u32 xt3), (8, .slice At8 nt8 ct8), (9, .int .i64 xt9), (10, .int .i64 xt10)]) w := by kernel_rfl
theorem l0_snd : ∀ c, subC [0, 1, 0, 1, 1] body = some c → Snd Try.prog 33 c l0T := by
  refine loop_of (hT := hT) (D := D) (l := l0tb) (b := l0b) (lo := l0LO) (by kernel_rfl) (by
    intro x hx
    simp only [l0tb, List.mem_cons, List.not_mem_nil, or_false] at hx
    rcases hx with rfl | rfl
    · exact l2_snd
    · exact l1_snd) (by kernel_rfl) (by kernel_rfl) ?_ ?_
  · intro Q σ w h
    unfold l0Tk at h
    obtain ⟨xt3, h3, hn⟩ := gInt_elim h
    clear h
    have h := hn
    clear hn
    obtain ⟨At8, nt8, ct8, h8, hn⟩ := gSlice_elim h
    clear h
    have h := hn
    clear hn
    obtain ⟨xt9, h9, hn⟩ := gInt_elim h
    clear h
    have h := hn
    clear hn
    obtain ⟨xt10, h10, hn⟩ := gInt_elim h
    clear h
    have h := hn
    clear hn
    exact h
  · intro k Q σ w h
    unfold l0Tk at h
    obtain ⟨xt3, h3, hn⟩ := gInt_elim h
    clear h
    have h := hn
    clear hn
    obtain ⟨At8, nt8, ct8, h8, hn⟩ := gSlice_elim h
    clear h
    have h := hn
    clear hn
    obtain ⟨xt9, h9, hn⟩ := gInt_elim h
    clear h
    have h := hn
    clear hn
    obtain ⟨xt10, h10, hn⟩ := gInt_elim h
    clear h
    have h := hn
    clear hn
    rw [l0_eq (σ := σ)] at h
    have e : (ov σ [(3, .int .u32 xt3), (8, .slice At8 nt8 ct8), (9, .int .i64 xt9), (10, .int .i64 xt10)]) = σ := ov_self (by simp [h3, h8, h9, h10])
    rw [e] at h
    exact h
def tb : List (List Nat × Spec) := [([0, 1, 1, 1, 0, 0, 1, 1, 0, 0, 1, 1, 0, 0, 1, 1, 0, 0, 1, 0, 1, 1], l2T), ([0, 1, 1, 0, 0, 1, 1, 0, 0, 1, 0, 1, 1], l1T), ([0, 1, 0, 1, 1], l0T)]
theorem wp_eq (Aa0 : Option Addr) (na0 : Nat) (ca0 : Nat) (w : World) (Q : Ending → World → Prop) :
    wp Aa0 na0 ca0 w Q = codeW Try.prog hT 33 D (tab tb) [] body (topQ Try.prog hT 33 [.tmp 2] Q) (argsF [.slice Aa0 na0 ca0]) w := by kernel_rfl
theorem ok (Aa0 : Option Addr) (na0 : Nat) (ca0 : Nat) (w : World) (Q : Ending → World → Prop) (h : wp Aa0 na0 ca0 w Q) : Calls Try.prog 15 #[.slice Aa0 na0 ca0] w Q := by
  rw [wp_eq] at h
  exact calls_of_codeW (c := body) (rs := [.tmp 2]) Try.func15 (by kernel_rfl) (by kernel_rfl) (by kernel_rfl) (by kernel_rfl) (by kernel_rfl) (tab_snd (by
    intro x hx
    simp only [tb, List.mem_cons, List.not_mem_nil, or_false] at hx
    rcases hx with rfl | rfl | rfl
    · exact l2_snd
    · exact l1_snd
    · exact l0_snd)) (by kernel_rfl) h
end f_crc_Sum
namespace f_ref01_Intact
/-! skein/skeinref01.Intact: function 16 -/
noncomputable def body : Code := (Try.f16.body).getD .skip
def l0 : Nat → Option Addr → Nat → Nat → Option Addr → Nat → Nat → Int → World → (World → Prop) → (Bool → World → Prop) → Prop
  | 0, _, _, _, _, _, _, _, _, _, _ => False
  | k + 1, At0, nt0, ct0, At1, nt1, ct1, xt5, w, K0, Kr =>
    sel (decide (xt5 < (nt1 : Int))) (
    drW w fun w1 =>
    optB At0 fun a3 =>
    req (decide (0 ≤ xt5 ∧ xt5 < (nt0 : Int))) <|
    ldI w1 (a3.add (xt5.toNat * 1)) .u8 fun x4 =>
    optB At1 fun a5 =>
    req (decide (0 ≤ xt5 ∧ xt5 < (nt1 : Int))) <|
    ldI w1 (a5.add (xt5.toNat * 1)) .u8 fun x6 =>
    sel (x4 != x6) (
    Kr false w1) (
    l0 k At0 nt0 ct0 At1 nt1 ct1 (IntKind.i64.wrap (xt5 + (1 : Int))) w1 K0 Kr)) (
    K0  w)
def l1 : Nat → Option Addr → Nat → Nat → Option Addr → Nat → Nat → Int → World → (World → Prop) → (Bool → World → Prop) → Prop
  | 0, _, _, _, _, _, _, _, _, _, _ => False
  | k + 1, At0, nt0, ct0, At1, nt1, ct1, xt6, w, K2, Kr =>
    sel (decide (xt6 < (64 : Int))) (
    optB At0 fun a8 =>
    req (decide (0 ≤ (IntKind.i64.wrap ((nt1 : Int) + xt6)) ∧ (IntKind.i64.wrap ((nt1 : Int) + xt6)) < (nt0 : Int))) <|
    ldI w (a8.add ((IntKind.i64.wrap ((nt1 : Int) + xt6)).toNat * 1)) .u8 fun x9 =>
    sel (x9 != (IntKind.u8.wrap (IntKind.i64.wrap ((208 : Int) + (xt6.tmod (9 : Int)))))) (
    Kr false w) (
    l1 k At0 nt0 ct0 At1 nt1 ct1 (IntKind.i64.wrap (xt6 + (1 : Int))) w K2 Kr)) (
    K2  w)
def wp (Aa0 : Option Addr) (na0 : Nat) (ca0 : Nat) (Aa1 : Option Addr) (na1 : Nat) (ca1 : Nat) (w : World) (Q : Ending → World → Prop) : Prop :=
  sel ((na0 : Int) != (IntKind.i64.wrap ((na1 : Int) + (64 : Int)))) (
  Q (.returned (.bool false)) w) (
  ∃ k16 : Nat, l0 k16 Aa0 na0 ca0 Aa1 na1 ca1 (0 : Int) w (fun (w7 : World) => ∀ _ : Fr,
  ∃ k13 : Nat, l1 k13 Aa0 na0 ca0 Aa1 na1 ca1 (0 : Int) w7 (fun (w10 : World) => ∀ _ : Fr,
  Q (.returned (.bool true)) w10) (fun (b11 : Bool) (w12 : World) => ∀ _ : Fr,
  Q (.returned (.bool b11)) w12)) (fun (b14 : Bool) (w15 : World) => ∀ _ : Fr,
  Q (.returned (.bool b14)) w15))
def D : Nat → Option DH := dtab [(6, .simple [.fst 0, .fst 1, .fst 2, .fst 3, .fst 4, .fst 5, .fst 6, .fst 7] [.fst 8])]
def l0LO : LO := ⟨[], [4], [(0, [0, 1])], []⟩
def l0Tk (k : Nat) : Spec := fun Q σ w =>
  gSlice (σ 0) fun At0 nt0 ct0 =>
  gSlice (σ 1) fun At1 nt1 ct1 =>
  gInt .i64 (σ 5) fun xt5 =>
  l0 k At0 nt0 ct0 At1 nt1 ct1 xt5 w (fun (w : World) => ∀ d : Fr, Q (.exit 0) (ov d [(0, .slice At0 nt0 ct0), (1, .slice At1 nt1 ct1)]) w) (fun (bq4 : Bool) (w : World) => ∀ d : Fr, Q .ret (ov d [(4, .bool bq4)]) w)
def l0T : Spec := fun Q σ w => ∃ k, l0Tk k Q σ w
def l0tb : List (List Nat × Spec) := []
noncomputable def l0b : Code := (subC [0, 0, 1, 0, 1, 1] body).getD .skip
theorem l0_eq (k : Nat) (At0 : Option Addr) (nt0 : Nat) (ct0 : Nat) (At1 : Option Addr) (nt1 : Nat) (ct1 : Nat) (xt5 : Int) (Q : PQ) (σ : Fr) (w : World) :
    l0 (k + 1) At0 nt0 ct0 At1 nt1 ct1 xt5 w (fun (w : World) => ∀ d : Fr, Q (.exit 0) (ov d [(0, .slice At0 nt0 ct0), (1, .slice At1 nt1 ct1)]) w) (fun (bq4 : Bool) (w : World) => ∀ d : Fr, Q .ret (ov d [(4, .bool bq4)]) w) = codeW Try.prog hT 44 D (tab l0tb) [0, 0, 1, 0, 1, 1] l0b (thenQ (l0Tk k Q) (widen l0LO Q)) (ov σ [(0, .slice At0 nt0 ct0), (1, .slice At1 nt1 ct1), (5, .int .i64 xt5)]) w := by kernel_rfl
theorem l0_snd : ∀ c, subC [0, 1, 0, 1, 1] body = some c → Snd Try.prog 44 c l0T := by
  refine loop_of (hT := hT) (D := D) (l := l0tb) (b := l0b) (lo := l0LO) (by kernel_rfl) (by
    intro x hx
    simp only [l0tb, List.not_mem_nil] at hx
    ) (by kernel_rfl) (by kernel_rfl) ?_ ?_
  · intro Q σ w h
    unfold l0Tk at h
    obtain ⟨At0, nt0, ct0, h0, hn⟩ := gSlice_elim h
    clear h
    have h := hn
    clear hn
    obtain ⟨At1, nt1, ct1, h1, hn⟩ := gSlice_elim h
    clear h
    have h := hn
    clear hn
    obtain ⟨xt5, h5, hn⟩ := gInt_elim h
    clear h
    have h := hn
    clear hn
    exact h
  · intro k Q σ w h
    unfold l0Tk at h
    obtain ⟨At0, nt0, ct0, h0, hn⟩ := gSlice_elim h
    clear h
    have h := hn
    clear hn
    obtain ⟨At1, nt1, ct1, h1, hn⟩ := gSlice_elim h
    clear h
    have h := hn
    clear hn
    obtain ⟨xt5, h5, hn⟩ := gInt_elim h
    clear h
    have h := hn
    clear hn
    rw [l0_eq (σ := σ)] at h
    have e : (ov σ [(0, .slice At0 nt0 ct0), (1, .slice At1 nt1 ct1), (5, .int .i64 xt5)]) = σ := ov_self (by simp [h0, h1, h5])
    rw [e] at h
    exact h
def l1LO : LO := ⟨[], [4], [(2, [])], []⟩
def l1Tk (k : Nat) : Spec := fun Q σ w =>
  gSlice (σ 0) fun At0 nt0 ct0 =>
  gSlice (σ 1) fun At1 nt1 ct1 =>
  gInt .i64 (σ 6) fun xt6 =>
  l1 k At0 nt0 ct0 At1 nt1 ct1 xt6 w (fun (w : World) => ∀ d : Fr, Q (.exit 2) (ov d []) w) (fun (bq4 : Bool) (w : World) => ∀ d : Fr, Q .ret (ov d [(4, .bool bq4)]) w)
def l1T : Spec := fun Q σ w => ∃ k, l1Tk k Q σ w
def l1tb : List (List Nat × Spec) := []
noncomputable def l1b : Code := (subC [0, 0, 1, 0, 1, 1, 1] body).getD .skip
theorem l1_eq (k : Nat) (At0 : Option Addr) (nt0 : Nat) (ct0 : Nat) (At1 : Option Addr) (nt1 : Nat) (ct1 : Nat) (xt6 : Int) (Q : PQ) (σ : Fr) (w : World) :
    l1 (k + 1) At0 nt0 ct0 At1 nt1 ct1 xt6 w (fun (w : World) => ∀ d : Fr, Q (.exit 2) (ov d []) w) (fun (bq4 : Bool) (w : World) => ∀ d : Fr, Q .ret (ov d [(4, .bool bq4)]) w) = codeW Try.prog hT 44 D (tab l1tb) [0, 0, 1, 0, 1, 1, 1] l1b (thenQ (l1Tk k Q) (widen l1LO Q)) (ov σ [(0, .slice At0 nt0 ct0), (1, .slice At1 nt1 ct1), (6, .int .i64 xt6)]) w := by kernel_rfl
theorem l1_snd : ∀ c, subC [0, 1, 0, 1, 1, 1] body = some c → Snd Try.prog 44 c l1T := by
  refine loop_of (hT := hT) (D := D) (l := l1tb) (b := l1b) (lo := l1LO) (by kernel_rfl) (by
    intro x hx
    simp only [l1tb, List.not_mem_nil] at hx
    ) (by kernel_rfl) (by kernel_rfl) ?_ ?_
  · intro Q σ w h
    unfold l1Tk at h
    obtain ⟨At0, nt0, ct0, h0, hn⟩ := gSlice_elim h
    clear h
    have h := hn
    clear hn
    obtain ⟨At1, nt1, ct1, h1, hn⟩ := gSlice_elim h
    clear h
    have h := hn
    clear hn
    obtain ⟨xt6, h6, hn⟩ := gInt_elim h
    clear h
    have h := hn
    clear hn
    exact h
  · intro k Q σ w h
    unfold l1Tk at h
    obtain ⟨At0, nt0, ct0, h0, hn⟩ := gSlice_elim h
    clear h
    have h := hn
    clear hn
    obtain ⟨At1, nt1, ct1, h1, hn⟩ := gSlice_elim h
    clear h
    have h := hn
    clear hn
    obtain ⟨xt6, h6, hn⟩ := gInt_elim h
    clear h
    have h := hn
    clear hn
    rw [l1_eq (σ := σ)] at h
    have e : (ov σ [(0, .slice At0 nt0 ct0), (1, .slice At1 nt1 ct1), (6, .int .i64 xt6)]) = σ := ov_self (by simp [h0, h1, h6])
    rw [e] at h
    exact h
def tb : List (List Nat × Spec) := [([0, 1, 0, 1, 1], l0T), ([0, 1, 0, 1, 1, 1], l1T)]
theorem wp_eq (Aa0 : Option Addr) (na0 : Nat) (ca0 : Nat) (Aa1 : Option Addr) (na1 : Nat) (ca1 : Nat) (w : World) (Q : Ending → World → Prop) :
    wp Aa0 na0 ca0 Aa1 na1 ca1 w Q = codeW Try.prog hT 44 D (tab tb) [] body (topQ Try.prog hT 44 [.tmp 4] Q) (argsF [.slice Aa0 na0 ca0, .slice Aa1 na1 ca1]) w := by kernel_rfl
theorem ok (Aa0 : Option Addr) (na0 : Nat) (ca0 : Nat) (Aa1 : Option Addr) (na1 : Nat) (ca1 : Nat) (w : World) (Q : Ending → World → Prop) (h : wp Aa0 na0 ca0 Aa1 na1 ca1 w Q) : Calls Try.prog 16 #[.slice Aa0 na0 ca0, .slice Aa1 na1 ca1] w Q := by
  rw [wp_eq] at h
  exact calls_of_codeW (c := body) (rs := [.tmp 4]) Try.func16 (by kernel_rfl) (by kernel_rfl) (by kernel_rfl) (by kernel_rfl) (by kernel_rfl) (tab_snd (by
    intro x hx
    simp only [tb, List.mem_cons, List.not_mem_nil, or_false] at hx
    rcases hx with rfl | rfl
    · exact l0_snd
    · exact l1_snd)) (by kernel_rfl) h
end f_ref01_Intact
namespace f_ref01_Apart
/-! skein/skeinref01.Apart: function 17 -/
noncomputable def body : Code := (Try.f17.body).getD .skip
def l0 : Nat → Option Addr → Nat → Nat → Int → World → ((Option Addr) → Nat → Nat → World → Prop) → Prop
  | 0, _, _, _, _, _, _ => False
  | k + 1, At7, nt7, ct7, xt8, w, K0 =>
    sel (decide (xt8 < (70 : Int))) (
    alW w (.cells #[.int .u8 (IntKind.u8.wrap xt8)] 5) fun B9 w10 =>
    Runs Try.prog (Builtin.append_ #[22, 22] 22 #[.slice At7 nt7 ct7, .slice (some (⟨B9, 0, Option.none⟩ : Addr)) 1 1]) w10 fun v12 w11 => ∃ (A13 : Option Addr) (n13 : Nat) (c13 : Nat), v12 = (.slice A13 n13 c13) ∧ (
    l0 k A13 n13 c13 (IntKind.i64.wrap (xt8 + (1 : Int))) w11 K0)) (
    K0 At7 nt7 ct7 w)
def wp (Aa0 : Option Addr) (na0 : Nat) (ca0 : Nat) (Aa1 : Option Addr) (na1 : Nat) (ca1 : Nat) (Aa2 : Option Addr) (na2 : Nat) (ca2 : Nat) (w : World) (Q : Ending → World → Prop) : Prop :=
  Calls Try.prog 37 #[.slice Aa0 na0 ca0, .slice Aa2 na2 ca2] w fun e1 w2 => ∃ (b3 : Bool), e1 = .returned (.bool b3) ∧ (
  sel (!b3) (
  Q (.returned (.bool false)) w2) (
  Calls Try.prog 37 #[.slice Aa1 na1 ca1, .slice Aa2 na2 ca2] w2 fun e4 w5 => ∃ (b6 : Bool), e4 = .returned (.bool b6) ∧ (
  sel (!b6) (
  Q (.returned (.bool false)) w5) (
  Calls Try.prog 44 #[.slice Aa0 na0 ca0] w5 fun e7 w8 => e7 = .returned (.tuple #[]) ∧ (
  ∃ k22 : Nat, l0 k22 Aa0 na0 ca0 (0 : Int) w8 (fun (A14 : Option Addr) (n14 : Nat) (c14 : Nat) (w15 : World) => ∀ _ : Fr,
  sel ((n14 : Int) == (IntKind.i64.wrap ((na2 : Int) + (70 : Int)))) (
  Calls Try.prog 45 #[.slice Aa0 na0 ca0, .slice Aa2 na2 ca2] w15 fun e16 w17 => ∃ (b18 : Bool), e16 = .returned (.bool b18) ∧ (
  sel b18 (
  Calls Try.prog 37 #[.slice Aa1 na1 ca1, .slice Aa2 na2 ca2] w17 fun e19 w20 => ∃ (b21 : Bool), e19 = .returned (.bool b21) ∧ (
  Q (.returned (.bool b21)) w20)) (
  Q (.returned (.bool false)) w17))) (
  Q (.returned (.bool false)) w15)))))))
def D : Nat → Option DH := dtab []
def l0LO : LO := ⟨[], [], [(0, [0, 1, 2, 7])], []⟩
def l0Tk (k : Nat) : Spec := fun Q σ w =>
  gSlice (σ 7) fun At7 nt7 ct7 =>
  gInt .i64 (σ 8) fun xt8 =>
  l0 k At7 nt7 ct7 xt8 w (fun (Aq7 : Option Addr) (nq7 : Nat) (cq7 : Nat) (w : World) => ∀ d : Fr, Q (.exit 0) (ov d [(0, σ 0), (1, σ 1), (2, σ 2), (7, .slice Aq7 nq7 cq7)]) w)
def l0T : Spec := fun Q σ w => ∃ k, l0Tk k Q σ w
def l0tb : List (List Nat × Spec) := []
noncomputable def l0b : Code := (subC [0, 0, 1, 0, 1, 1, 1, 1] body).getD .skip
theorem l0_eq (k : Nat) (At7 : Option Addr) (nt7 : Nat) (ct7 : Nat) (xt8 : Int) (Q : PQ) (σ : Fr) (w : World) :
    l0 (k + 1) At7 nt7 ct7 xt8 w (fun (Aq7 : Option Addr) (nq7 : Nat) (cq7 : Nat) (w : World) => ∀ d : Fr, Q (.exit 0) (ov d [(0, σ 0), (1, σ 1), (2, σ 2), (7, .slice Aq7 nq7 cq7)]) w) = codeW Try.prog hT 47 D (tab l0tb) [0, 0, 1, 0, 1, 1, 1, 1] l0b (thenQ (l0Tk k Q) (widen l0LO Q)) (ov σ [(7, .slice At7 nt7 ct7), (8, .int .i64 xt8)]) w := by kernel_rfl
theorem l0_snd : ∀ c, subC [0, 1, 0, 1, 1, 1, 1] body = some c → Snd Try.prog 47 c l0T := by
  refine loop_of (hT := hT) (D := D) (l := l0tb) (b := l0b) (lo := l0LO) (by kernel_rfl) (by
    intro x hx
    simp only [l0tb, List.not_mem_nil] at hx
    ) (by kernel_rfl) (by kernel_rfl) ?_ ?_
  · intro Q σ w h
    unfold l0Tk at h
    obtain ⟨At7, nt7, ct7, h7, hn⟩ := gSlice_elim h
    clear h
    have h := hn
    clear hn
    obtain ⟨xt8, h8, hn⟩ := gInt_elim h
    clear h
    have h := hn
    clear hn
    exact h
  · intro k Q σ w h
    unfold l0Tk at h
    obtain ⟨At7, nt7, ct7, h7, hn⟩ := gSlice_elim h
    clear h
    have h := hn
    clear hn
    obtain ⟨xt8, h8, hn⟩ := gInt_elim h
    clear h
    have h := hn
    clear hn
    rw [l0_eq (σ := σ)] at h
    have e : (ov σ [(7, .slice At7 nt7 ct7), (8, .int .i64 xt8)]) = σ := ov_self (by simp [h7, h8])
    rw [e] at h
    exact h
def tb : List (List Nat × Spec) := [([0, 1, 0, 1, 1, 1, 1], l0T)]
theorem wp_eq (Aa0 : Option Addr) (na0 : Nat) (ca0 : Nat) (Aa1 : Option Addr) (na1 : Nat) (ca1 : Nat) (Aa2 : Option Addr) (na2 : Nat) (ca2 : Nat) (w : World) (Q : Ending → World → Prop) :
    wp Aa0 na0 ca0 Aa1 na1 ca1 Aa2 na2 ca2 w Q = codeW Try.prog hT 47 D (tab tb) [] body (topQ Try.prog hT 47 [.tmp 6] Q) (argsF [.slice Aa0 na0 ca0, .slice Aa1 na1 ca1, .slice Aa2 na2 ca2]) w := by kernel_rfl
theorem ok (Aa0 : Option Addr) (na0 : Nat) (ca0 : Nat) (Aa1 : Option Addr) (na1 : Nat) (ca1 : Nat) (Aa2 : Option Addr) (na2 : Nat) (ca2 : Nat) (w : World) (Q : Ending → World → Prop) (h : wp Aa0 na0 ca0 Aa1 na1 ca1 Aa2 na2 ca2 w Q) : Calls Try.prog 17 #[.slice Aa0 na0 ca0, .slice Aa1 na1 ca1, .slice Aa2 na2 ca2] w Q := by
  rw [wp_eq] at h
  exact calls_of_codeW (c := body) (rs := [.tmp 6]) Try.func17 (by kernel_rfl) (by kernel_rfl) (by kernel_rfl) (by kernel_rfl) (by kernel_rfl) (tab_snd (by
    intro x hx
    simp only [tb, List.mem_cons, List.not_mem_nil, or_false] at hx
    subst hx
    exact l0_snd)) (by kernel_rfl) h
end f_ref01_Apart
namespace f_crc_Seal
/-! skein/crc.Seal: function 18 -/
noncomputable def body : Code := (Try.f18.body).getD .skip
def wp (Aa0 : Option Addr) (na0 : Nat) (ca0 : Nat) (w : World) (Q : Ending → World → Prop) : Prop :=
  alW w (.cells #[.slice Aa0 na0 ca0] 22) fun B1 w2 =>
  Calls Try.prog 15 #[.slice (some (⟨B1, 0, Option.none⟩ : Addr)) 1 1] w2 fun e3 w4 => ∃ (x5 : Int), e3 = .returned (.int .u32 x5) ∧ (
  Calls Try.prog 46 #[.int .u32 x5] w4 fun e6 w7 => ∃ (x8_0 : Int) (x8_1 : Int) (x8_2 : Int) (x8_3 : Int), e6 = .returned (.agg #[.int .u8 x8_0, .int .u8 x8_1, .int .u8 x8_2, .int .u8 x8_3]) ∧ (
  alW w7 (.cells #[.int .u8 (0 : Int), .int .u8 (0 : Int), .int .u8 (0 : Int), .int .u8 (0 : Int)] 65) fun B9 w10 =>
  stW w10 (⟨B9, 0, Option.none⟩ : Addr) (.int .u8 x8_0) fun w11 =>
  stW w11 ((⟨B9, 0, Option.none⟩ : Addr).add 1) (.int .u8 x8_1) fun w12 =>
  stW w12 ((⟨B9, 0, Option.none⟩ : Addr).add 2) (.int .u8 x8_2) fun w13 =>
  stW w13 ((⟨B9, 0, Option.none⟩ : Addr).add 3) (.int .u8 x8_3) fun w14 =>
  drW w14 fun w15 =>
  Runs Try.prog (Instr.makeSlice 22 (.int .i64 (0 : Int)) (.int .i64 (IntKind.i64.wrap ((na0 : Int) + (4 : Int))))) w15 fun v18 w17 => ∃ (A19 : Option Addr) (n19 : Nat) (c19 : Nat), v18 = (.slice A19 n19 c19) ∧ (
  Runs Try.prog (Builtin.append_ #[22, 22] 22 #[.slice A19 n19 c19, .slice (some (slB (⟨B9, 0, Option.none⟩ : Addr) 0 4 1)) (4 - 0) (4 - 0)]) w17 fun v21 w20 => ∃ (A22 : Option Addr) (n22 : Nat) (c22 : Nat), v21 = (.slice A22 n22 c22) ∧ (
  Runs Try.prog (Builtin.append_ #[22, 22] 22 #[.slice A22 n22 c22, .slice Aa0 na0 ca0]) w20 fun v24 w23 => ∃ (A25 : Option Addr) (n25 : Nat) (c25 : Nat), v24 = (.slice A25 n25 c25) ∧ (
  Q (.returned (.slice A25 n25 c25)) w23)))))
def D : Nat → Option DH := dtab [(2, .simple [] [.fst 0, .fst 1, .fst 2, .fst 4, .fst 6, .eff 3, .eff 5, .eff 7, .fst 8])]
def tb : List (List Nat × Spec) := []
theorem wp_eq (Aa0 : Option Addr) (na0 : Nat) (ca0 : Nat) (w : World) (Q : Ending → World → Prop) :
    wp Aa0 na0 ca0 w Q = codeW Try.prog hT 16 D (tab tb) [] body (topQ Try.prog hT 16 [.tmp 2] Q) (argsF [.slice Aa0 na0 ca0]) w := by kernel_rfl
theorem ok (Aa0 : Option Addr) (na0 : Nat) (ca0 : Nat) (w : World) (Q : Ending → World → Prop) (h : wp Aa0 na0 ca0 w Q) : Calls Try.prog 18 #[.slice Aa0 na0 ca0] w Q := by
  rw [wp_eq] at h
  exact calls_of_codeW (c := body) (rs := [.tmp 2]) Try.func18 (by kernel_rfl) (by kernel_rfl) (by kernel_rfl) (by kernel_rfl) (by kernel_rfl) (tab_snd (by
    intro x hx
    simp only [tb, List.not_mem_nil] at hx
    )) (by kernel_rfl) h
end f_crc_Seal
namespace f_ref02_Seal
/-! skein/skeinref02.Seal: function 19 -/
noncomputable def body : Code := (Try.f19.body).getD .skip
def l0 : Nat → Option Addr → Nat → Nat → Int → Int → World → ((Option Addr) → Nat → Nat → World → Prop) → Prop
  | 0, _, _, _, _, _, _, _ => False
  | k + 1, At3, nt3, ct3, xt4, xt5, w, K0 =>
    sel (decide (xt5 < (4 : Int))) (
    alW w (.cells #[.int .u8 (IntKind.u8.wrap (xt4.tmod (256 : Int)))] 5) fun B6 w7 =>
    Runs Try.prog (Builtin.append_ #[22, 22] 22 #[.slice At3 nt3 ct3, .slice (some (⟨B6, 0, Option.none⟩ : Addr)) 1 1]) w7 fun v9 w8 => ∃ (A10 : Option Addr) (n10 : Nat) (c10 : Nat), v9 = (.slice A10 n10 c10) ∧ (
    l0 k A10 n10 c10 (IntKind.u32.wrap (xt4.tdiv (256 : Int))) (IntKind.i64.wrap (xt5 + (1 : Int))) w8 K0)) (
    K0 At3 nt3 ct3 w)
def wp (Aa0 : Option Addr) (na0 : Nat) (ca0 : Nat) (w : World) (Q : Ending → World → Prop) : Prop :=
  alW w (.cells #[] 5) fun B1 w2 =>
  Calls Try.prog 14 #[.slice Aa0 na0 ca0] w2 fun e3 w4 => ∃ (x5 : Int), e3 = .returned (.int .u32 x5) ∧ (
  ∃ k16 : Nat, l0 k16 (some (⟨B1, 0, Option.none⟩ : Addr)) 0 0 x5 (0 : Int) w4 (fun (A11 : Option Addr) (n11 : Nat) (c11 : Nat) (w12 : World) => ∀ _ : Fr,
  Calls Try.prog 35 #[.slice A11 n11 c11, .slice Aa0 na0 ca0] w12 fun e13 w14 => ∃ (A15 : Option Addr) (n15 : Nat) (c15 : Nat), e13 = .returned (.slice A15 n15 c15) ∧ (
  Q (.returned (.slice A15 n15 c15)) w14)))
def D : Nat → Option DH := dtab []
def l0LO : LO := ⟨[], [], [(0, [0, 3])], []⟩
def l0Tk (k : Nat) : Spec := fun Q σ w =>
  gSlice (σ 3) fun At3 nt3 ct3 =>
  gInt .u32 (σ 4) fun xt4 =>
  gInt .i64 (σ 5) fun xt5 =>
  l0 k At3 nt3 ct3 xt4 xt5 w (fun (Aq3 : Option Addr) (nq3 : Nat) (cq3 : Nat) (w : World) => ∀ d : Fr, Q (.exit 0) (ov d [(0, σ 0), (3, .slice Aq3 nq3 cq3)]) w)
def l0T : Spec := fun Q σ w => ∃ k, l0Tk k Q σ w
def l0tb : List (List Nat × Spec) := []
noncomputable def l0b : Code := (subC [0, 0, 1, 0, 1, 1, 1] body).getD .skip
theorem l0_eq (k : Nat) (At3 : Option Addr) (nt3 : Nat) (ct3 : Nat) (xt4 : Int) (xt5 : Int) (Q : PQ) (σ : Fr) (w : World) :
    l0 (k + 1) At3 nt3 ct3 xt4 xt5 w (fun (Aq3 : Option Addr) (nq3 : Nat) (cq3 : Nat) (w : World) => ∀ d : Fr, Q (.exit 0) (ov d [(0, σ 0), (3, .slice Aq3 nq3 cq3)]) w) = codeW Try.prog hT 24 D (tab l0tb) [0, 0, 1, 0, 1, 1, 1] l0b (thenQ (l0Tk k Q) (widen l0LO Q)) (ov σ [(3, .slice At3 nt3 ct3), (4, .int .u32 xt4), (5, .int .i64 xt5)]) w := by kernel_rfl
theorem l0_snd : ∀ c, subC [0, 1, 0, 1, 1, 1] body = some c → Snd Try.prog 24 c l0T := by
  refine loop_of (hT := hT) (D := D) (l := l0tb) (b := l0b) (lo := l0LO) (by kernel_rfl) (by
    intro x hx
    simp only [l0tb, List.not_mem_nil] at hx
    ) (by kernel_rfl) (by kernel_rfl) ?_ ?_
  · intro Q σ w h
    unfold l0Tk at h
    obtain ⟨At3, nt3, ct3, h3, hn⟩ := gSlice_elim h
    clear h
    have h := hn
    clear hn
    obtain ⟨xt4, h4, hn⟩ := gInt_elim h
    clear h
    have h := hn
    clear hn
    obtain ⟨xt5, h5, hn⟩ := gInt_elim h
    clear h
    have h := hn
    clear hn
    exact h
  · intro k Q σ w h
    unfold l0Tk at h
    obtain ⟨At3, nt3, ct3, h3, hn⟩ := gSlice_elim h
    clear h
    have h := hn
    clear hn
    obtain ⟨xt4, h4, hn⟩ := gInt_elim h
    clear h
    have h := hn
    clear hn
    obtain ⟨xt5, h5, hn⟩ := gInt_elim h
    clear h
    have h := hn
    clear hn
    rw [l0_eq (σ := σ)] at h
    have e : (ov σ [(3, .slice At3 nt3 ct3), (4, .int .u32 xt4), (5, .int .i64 xt5)]) = σ := ov_self (by simp [h3, h4, h5])
    rw [e] at h
    exact h
def tb : List (List Nat × Spec) := [([0, 1, 0, 1, 1, 1], l0T)]
theorem wp_eq (Aa0 : Option Addr) (na0 : Nat) (ca0 : Nat) (w : World) (Q : Ending → World → Prop) :
    wp Aa0 na0 ca0 w Q = codeW Try.prog hT 24 D (tab tb) [] body (topQ Try.prog hT 24 [.tmp 2] Q) (argsF [.slice Aa0 na0 ca0]) w := by kernel_rfl
theorem ok (Aa0 : Option Addr) (na0 : Nat) (ca0 : Nat) (w : World) (Q : Ending → World → Prop) (h : wp Aa0 na0 ca0 w Q) : Calls Try.prog 19 #[.slice Aa0 na0 ca0] w Q := by
  rw [wp_eq] at h
  exact calls_of_codeW (c := body) (rs := [.tmp 2]) Try.func19 (by kernel_rfl) (by kernel_rfl) (by kernel_rfl) (by kernel_rfl) (by kernel_rfl) (tab_snd (by
    intro x hx
    simp only [tb, List.mem_cons, List.not_mem_nil, or_false] at hx
    subst hx
    exact l0_snd)) (by kernel_rfl) h
end f_ref02_Seal
namespace f_crc_Open
/-! skein/crc.Open: function 20 -/
noncomputable def body : Code := (Try.f20.body).getD .skip
def wp (Aa0 : Option Addr) (na0 : Nat) (ca0 : Nat) (w : World) (Q : Ending → World → Prop) : Prop :=
  drW w fun w1 =>
  ∃ S2 : World → Prop, S2 w1 ∧ (
  sel (decide ((na0 : Int) < (4 : Int))) (
  S2 w1 ∧ (
  S2 w1 ∧ (
  S2 w1 ∧ (
  Q (.returned (.tuple #[.slice none 0 0, .bool false])) w1)))) (
  req (decide (4 ≤ na0)) <|
  optB Aa0 fun a3 =>
  hdI S2 a3 .u8 fun x4 =>
  hdI S2 (a3.add 1) .u8 fun x5 =>
  hdI S2 (a3.add 2) .u8 fun x6 =>
  hdI S2 (a3.add 3) .u8 fun x7 =>
  req (decide (0 ≤ (4 : Int) ∧ (4 : Int) ≤ (na0 : Int))) <|
  alW w1 (.cells #[.slice (slA Aa0 4 ca0 1) (na0 - 4) (ca0 - 4)] 22) fun B8 w9 =>
  S2 w9 ∧ (
  Calls Try.prog 15 #[.slice (some (⟨B8, 0, Option.none⟩ : Addr)) 1 1] w9 fun e10 w11 => ∃ (x12 : Int), e10 = .returned (.int .u32 x12) ∧ (
  S2 w11 ∧ (
  Calls Try.prog 46 #[.int .u32 x12] w11 fun e13 w14 => ∃ (x15_0 : Int) (x15_1 : Int) (x15_2 : Int) (x15_3 : Int), e13 = .returned (.agg #[.int .u8 x15_0, .int .u8 x15_1, .int .u8 x15_2, .int .u8 x15_3]) ∧ (
  S2 w14 ∧ (
  sel (!((x4 == x15_0) && ((x5 == x15_1) && ((x6 == x15_2) && ((x7 == x15_3) && true))))) (
  Q (.returned (.tuple #[.slice none 0 0, .bool false])) w14) (
  req (decide (0 ≤ (4 : Int) ∧ (4 : Int) ≤ (na0 : Int))) <|
  Calls Try.prog 47 #[.slice (slA Aa0 4 ca0 1) (na0 - 4) (ca0 - 4)] w14 fun e16 w17 => ∃ (A18 : Option Addr) (n18 : Nat) (c18 : Nat), e16 = .returned (.slice A18 n18 c18) ∧ (
  Q (.returned (.tuple #[.slice A18 n18 c18, .bool true])) w17)))))))))
def D : Nat → Option DH := dtab [(1, .held [.fst 0, .fst 1, .fst 2, .fst 3, .fst 4, .fst 5, .fst 6, .fst 7, .fst 8, .eff 9, .eff 10, .eff 11] [.fst 12, .fst 13])]
def tb : List (List Nat × Spec) := []
theorem wp_eq (Aa0 : Option Addr) (na0 : Nat) (ca0 : Nat) (w : World) (Q : Ending → World → Prop) :
    wp Aa0 na0 ca0 w Q = codeW Try.prog hT 21 D (tab tb) [] body (topQ Try.prog hT 21 [.tmp 2, .tmp 3] Q) (argsF [.slice Aa0 na0 ca0]) w := by kernel_rfl
theorem ok (Aa0 : Option Addr) (na0 : Nat) (ca0 : Nat) (w : World) (Q : Ending → World → Prop) (h : wp Aa0 na0 ca0 w Q) : Calls Try.prog 20 #[.slice Aa0 na0 ca0] w Q := by
  rw [wp_eq] at h
  exact calls_of_codeW (c := body) (rs := [.tmp 2, .tmp 3]) Try.func20 (by kernel_rfl) (by kernel_rfl) (by kernel_rfl) (by kernel_rfl) (by kernel_rfl) (tab_snd (by
    intro x hx
    simp only [tb, List.not_mem_nil] at hx
    )) (by kernel_rfl) h
end f_crc_Open
namespace f_ref02_Open
/-! skein/skeinref02.Open: function 21 -/
noncomputable def body : Code := (Try.f21.body).getD .skip
def wp (Aa0 : Option Addr) (na0 : Nat) (ca0 : Nat) (w : World) (Q : Ending → World → Prop) : Prop :=
  sel (decide ((na0 : Int) < (4 : Int))) (
  Q (.returned (.tuple #[.slice none 0 0, .bool false])) w) (
  Calls Try.prog 36 #[.slice Aa0 na0 ca0, .int .i64 (4 : Int), .int .i64 (na0 : Int)] w fun e1 w2 => ∃ (A3 : Option Addr) (n3 : Nat) (c3 : Nat), e1 = .returned (.slice A3 n3 c3) ∧ (
  Calls Try.prog 19 #[.slice A3 n3 c3] w2 fun e4 w5 => ∃ (A6 : Option Addr) (n6 : Nat) (c6 : Nat), e4 = .returned (.slice A6 n6 c6) ∧ (
  Calls Try.prog 37 #[.slice A6 n6 c6, .slice Aa0 na0 ca0] w5 fun e7 w8 => ∃ (b9 : Bool), e7 = .returned (.bool b9) ∧ (
  sel (!b9) (
  Q (.returned (.tuple #[.slice none 0 0, .bool false])) w8) (
  Q (.returned (.tuple #[.slice A3 n3 c3, .bool true])) w8)))))
def D : Nat → Option DH := dtab []
def tb : List (List Nat × Spec) := []
theorem wp_eq (Aa0 : Option Addr) (na0 : Nat) (ca0 : Nat) (w : World) (Q : Ending → World → Prop) :
    wp Aa0 na0 ca0 w Q = codeW Try.prog hT 18 D (tab tb) [] body (topQ Try.prog hT 18 [.tmp 2, .tmp 3] Q) (argsF [.slice Aa0 na0 ca0]) w := by kernel_rfl
theorem ok (Aa0 : Option Addr) (na0 : Nat) (ca0 : Nat) (w : World) (Q : Ending → World → Prop) (h : wp Aa0 na0 ca0 w Q) : Calls Try.prog 21 #[.slice Aa0 na0 ca0] w Q := by
  rw [wp_eq] at h
  exact calls_of_codeW (c := body) (rs := [.tmp 2, .tmp 3]) Try.func21 (by kernel_rfl) (by kernel_rfl) (by kernel_rfl) (by kernel_rfl) (by kernel_rfl) (tab_snd (by
    intro x hx
    simp only [tb, List.not_mem_nil] at hx
    )) (by kernel_rfl) h
end f_ref02_Open
namespace f_law01_alive
/-! skein/skeinlaw01.alive: function 22 -/
noncomputable def body : Code := (Try.f22.body).getD .skip
def j0 (at10 : Addr) (w : World) (Kr : Bool → World → Prop) : Prop :=
  Calls Try.prog 25 #[.int .u64 (300 : Int)] w fun e32 w33 => ∃ (A34 : Option Addr) (n34 : Nat) (c34 : Nat), e32 = .returned (.slice A34 n34 c34) ∧ (
  alW w33 (.cells #[.int .u8 (172 : Int), .int .u8 (2 : Int)] 5) fun B35 w36 =>
  Calls Try.prog 37 #[.slice A34 n34 c34, .slice (some (⟨B35, 0, Option.none⟩ : Addr)) 2 2] w36 fun e37 w38 => ∃ (b39 : Bool), e37 = .returned (.bool b39) ∧ (
  sel b39 (
  Calls Try.prog 27 #[.int .i64 (-3 : Int)] w38 fun e40 w41 => ∃ (A42 : Option Addr) (n42 : Nat) (c42 : Nat), e40 = .returned (.slice A42 n42 c42) ∧ (
  alW w41 (.cells #[.int .u8 (5 : Int)] 5) fun B43 w44 =>
  Calls Try.prog 37 #[.slice A42 n42 c42, .slice (some (⟨B43, 0, Option.none⟩ : Addr)) 1 1] w44 fun e45 w46 => ∃ (b47 : Bool), e45 = .returned (.bool b47) ∧ (
  sel b47 (
  alW w46 (.cells #[.int .u8 (97 : Int), .int .u8 (98 : Int)] 5) fun B48 w49 =>
  Runs Try.prog (Go.convert 22 22 (.slice (some (⟨B48, 0, Option.none⟩ : Addr)) 2 2)) w49 fun v51 w50 => ∃ (A52 : Option Addr) (n52 : Nat) (c52 : Nat), v51 = (.slice A52 n52 c52) ∧ (
  Calls Try.prog 23 #[.slice A52 n52 c52] w50 fun e53 w54 => ∃ (A55 : Option Addr) (n55 : Nat) (c55 : Nat), e53 = .returned (.slice A55 n55 c55) ∧ (
  alW w54 (.cells #[.int .u8 (2 : Int), .int .u8 (97 : Int), .int .u8 (98 : Int)] 5) fun B56 w57 =>
  Calls Try.prog 37 #[.slice A55 n55 c55, .slice (some (⟨B56, 0, Option.none⟩ : Addr)) 3 3] w57 fun e58 w59 => ∃ (b60 : Bool), e58 = .returned (.bool b60) ∧ (
  sel b60 (
  ldI w59 (at10.add ((0 : Int).toNat * 1)) .u8 fun x61 =>
  sel (x61 == (127 : Int)) (
  ldI w59 at10 .u8 fun x62 =>
  ldI w59 (at10.add 1) .u8 fun x63 =>
  ldI w59 (at10.add 2) .u8 fun x64 =>
  ldI w59 (at10.add 3) .u8 fun x65 =>
  ldI w59 (at10.add 4) .u8 fun x66 =>
  ldI w59 (at10.add 5) .u8 fun x67 =>
  ldI w59 (at10.add 6) .u8 fun x68 =>
  ldI w59 (at10.add 7) .u8 fun x69 =>
  Calls Try.prog 41 #[.agg #[.int .u8 x62, .int .u8 x63, .int .u8 x64, .int .u8 x65, .int .u8 x66, .int .u8 x67, .int .u8 x68, .int .u8 x69]] w59 fun e70 w71 => ∃ (x72 : Int), e70 = .returned (.int .i64 x72) ∧ (
  Kr (x72 == (-1 : Int)) w71)) (
  Kr false w59)) (
  Kr false w59))))) (
  Kr false w46)))) (
  Kr false w38)))
def wp  (w : World) (Q : Ending → World → Prop) : Prop :=
  alW w (.cells #[.int .u8 (172 : Int), .int .u8 (2 : Int)] 5) fun B1 w2 =>
  Calls Try.prog 29 #[.slice (some (⟨B1, 0, Option.none⟩ : Addr)) 2 2, .int .i64 (0 : Int)] w2 fun e3 w4 => ∃ (x5_0 : Int) (x5_1 : Int) (x5_2 : Int), e3 = .returned (.tuple #[.int .u64 x5_0, .int .i64 x5_1, .int .i64 x5_2]) ∧ (
  alW w4 (.cells #[.int .u8 (5 : Int)] 5) fun B6 w7 =>
  Calls Try.prog 30 #[.slice (some (⟨B6, 0, Option.none⟩ : Addr)) 1 1, .int .i64 (0 : Int)] w7 fun e8 w9 => ∃ (x10_0 : Int) (x10_1 : Int) (x10_2 : Int), e8 = .returned (.tuple #[.int .i64 x10_0, .int .i64 x10_1, .int .i64 x10_2]) ∧ (
  alW w9 (.cells #[.int .u8 (2 : Int), .int .u8 (97 : Int), .int .u8 (98 : Int)] 5) fun B11 w12 =>
  Calls Try.prog 31 #[.slice (some (⟨B11, 0, Option.none⟩ : Addr)) 3 3, .int .i64 (0 : Int), .int .i64 (2 : Int)] w12 fun e13 w14 => ∃ (A15_0 : Option Addr) (n15_0 : Nat) (c15_0 : Nat) (x15_1 : Int) (x15_2 : Int), e13 = .returned (.tuple #[.slice A15_0 n15_0 c15_0, .int .i64 x15_1, .int .i64 x15_2]) ∧ (
  Calls Try.prog 39 #[.int .i64 (-1 : Int)] w14 fun e16 w17 => ∃ (x18_0 : Int) (x18_1 : Int) (x18_2 : Int) (x18_3 : Int) (x18_4 : Int) (x18_5 : Int) (x18_6 : Int) (x18_7 : Int), e16 = .returned (.agg #[.int .u8 x18_0, .int .u8 x18_1, .int .u8 x18_2, .int .u8 x18_3, .int .u8 x18_4, .int .u8 x18_5, .int .u8 x18_6, .int .u8 x18_7]) ∧ (
  alW w17 (.cells #[.int .u8 (0 : Int), .int .u8 (0 : Int), .int .u8 (0 : Int), .int .u8 (0 : Int), .int .u8 (0 : Int), .int .u8 (0 : Int), .int .u8 (0 : Int), .int .u8 (0 : Int)] 57) fun B19 w20 =>
  stW w20 (⟨B19, 0, Option.none⟩ : Addr) (.int .u8 x18_0) fun w21 =>
  stW w21 ((⟨B19, 0, Option.none⟩ : Addr).add 1) (.int .u8 x18_1) fun w22 =>
  stW w22 ((⟨B19, 0, Option.none⟩ : Addr).add 2) (.int .u8 x18_2) fun w23 =>
  stW w23 ((⟨B19, 0, Option.none⟩ : Addr).add 3) (.int .u8 x18_3) fun w24 =>
  stW w24 ((⟨B19, 0, Option.none⟩ : Addr).add 4) (.int .u8 x18_4) fun w25 =>
  stW w25 ((⟨B19, 0, Option.none⟩ : Addr).add 5) (.int .u8 x18_5) fun w26 =>
  stW w26 ((⟨B19, 0, Option.none⟩ : Addr).add 6) (.int .u8 x18_6) fun w27 =>
  stW w27 ((⟨B19, 0, Option.none⟩ : Addr).add 7) (.int .u8 x18_7) fun w28 =>
  sel (x5_0 != (300 : Int)) (
  Q (.returned (.bool false)) w28) (
  sel (x5_1 != (2 : Int)) (
  Q (.returned (.bool false)) w28) (
  sel (x5_2 != (0 : Int)) (
  Q (.returned (.bool false)) w28) (
  sel (x10_0 != (-3 : Int)) (
  Q (.returned (.bool false)) w28) (
  sel (x10_2 != (0 : Int)) (
  Q (.returned (.bool false)) w28) (
  Runs Try.prog (Go.convert 22 9 (.slice A15_0 n15_0 c15_0)) w28 fun v30 w29 => ∃ (s31 : ByteArray), v30 = (.string s31) ∧ (
  sel (!(s31.toList == (⟨#[97, 98]⟩ : ByteArray).toList)) (
  Q (.returned (.bool false)) w29) (
  sel (x15_1 != (3 : Int)) (
  Q (.returned (.bool false)) w29) (
  sel (x15_2 != (0 : Int)) (
  Q (.returned (.bool false)) w29) (
  j0 (⟨B19, 0, Option.none⟩ : Addr) w29 (fun (b73 : Bool) (w74 : World) => ∀ _ : Fr,
  Q (.returned (.bool b73)) w74))))))))))))))
def D : Nat → Option DH := dtab []
def j0LO : LO := ⟨[], [0], [], []⟩
def j0T : Spec := fun Q σ w =>
  gAd (σ 10) fun at10 =>
  j0 at10 w (fun (bq0 : Bool) (w : World) => ∀ d : Fr, Q .ret (ov d [(0, .bool bq0)]) w)
def j0tb : List (List Nat × Spec) := []
noncomputable def j0b : Code := (subC [1, 1, 1, 1, 1, 1] body).getD .skip
theorem j0_eq (at10 : Addr) (Q : PQ) (σ : Fr) (w : World) :
    j0 at10 w (fun (bq0 : Bool) (w : World) => ∀ d : Fr, Q .ret (ov d [(0, .bool bq0)]) w) = codeW Try.prog hT 86 D (tab j0tb) [1, 1, 1, 1, 1, 1] j0b (widen j0LO Q) (ov σ [(10, .pointer (some at10))]) w := by kernel_rfl
theorem j0_snd : ∀ c, subC [1, 1, 1, 1, 1, 1] body = some c → Snd Try.prog 86 c j0T := by
  refine cut_of (hT := hT) (D := D) (l := j0tb) (b := j0b) (lo := j0LO) (by kernel_rfl) (by
    intro x hx
    simp only [j0tb, List.not_mem_nil] at hx
    ) (by kernel_rfl) (by kernel_rfl) ?_
  intro Q σ w h
  unfold j0T at h
  obtain ⟨at10, h10, hn⟩ := gAd_elim h
  clear h
  have h := hn
  clear hn
  rw [j0_eq (σ := σ)] at h
  have e : (ov σ [(10, .pointer (some at10))]) = σ := ov_self (by simp [h10])
  rw [e] at h
  exact h
def tb : List (List Nat × Spec) := [([1, 1, 1, 1, 1, 1], j0T)]
theorem wp_eq  (w : World) (Q : Ending → World → Prop) :
    wp  w Q = codeW Try.prog hT 86 D (tab tb) [] body (topQ Try.prog hT 86 [.tmp 0] Q) (argsF []) w := by kernel_rfl
theorem ok  (w : World) (Q : Ending → World → Prop) (h : wp  w Q) : Calls Try.prog 22 #[] w Q := by
  rw [wp_eq] at h
  exact calls_of_codeW (c := body) (rs := [.tmp 0]) Try.func22 (by kernel_rfl) (by kernel_rfl) (by kernel_rfl) (by kernel_rfl) (by kernel_rfl) (tab_snd (by
    intro x hx
    simp only [tb, List.mem_cons, List.not_mem_nil, or_false] at hx
    subst hx
    exact j0_snd)) (by kernel_rfl) h
end f_law01_alive
namespace f_num_PutText
/-! skein/num.PutText: function 23 -/
noncomputable def body : Code := (Try.f23.body).getD .skip
def wp (Aa0 : Option Addr) (na0 : Nat) (ca0 : Nat) (w : World) (Q : Ending → World → Prop) : Prop :=
  Calls Try.prog 25 #[.int .u64 (IntKind.u64.wrap (na0 : Int))] w fun e1 w2 => ∃ (A3 : Option Addr) (n3 : Nat) (c3 : Nat), e1 = .returned (.slice A3 n3 c3) ∧ (
  Runs Try.prog (Builtin.append_ #[22, 22] 22 #[.slice A3 n3 c3, .slice Aa0 na0 ca0]) w2 fun v5 w4 => ∃ (A6 : Option Addr) (n6 : Nat) (c6 : Nat), v5 = (.slice A6 n6 c6) ∧ (
  Q (.returned (.slice A6 n6 c6)) w4))
def D : Nat → Option DH := dtab []
def tb : List (List Nat × Spec) := []
theorem wp_eq (Aa0 : Option Addr) (na0 : Nat) (ca0 : Nat) (w : World) (Q : Ending → World → Prop) :
    wp Aa0 na0 ca0 w Q = codeW Try.prog hT 9 D (tab tb) [] body (topQ Try.prog hT 9 [.tmp 2] Q) (argsF [.slice Aa0 na0 ca0]) w := by kernel_rfl
theorem ok (Aa0 : Option Addr) (na0 : Nat) (ca0 : Nat) (w : World) (Q : Ending → World → Prop) (h : wp Aa0 na0 ca0 w Q) : Calls Try.prog 23 #[.slice Aa0 na0 ca0] w Q := by
  rw [wp_eq] at h
  exact calls_of_codeW (c := body) (rs := [.tmp 2]) Try.func23 (by kernel_rfl) (by kernel_rfl) (by kernel_rfl) (by kernel_rfl) (by kernel_rfl) (tab_snd (by
    intro x hx
    simp only [tb, List.not_mem_nil] at hx
    )) (by kernel_rfl) h
end f_num_PutText
namespace f_ref01_PutText
/-! skein/skeinref01.PutText: function 24 -/
noncomputable def body : Code := (Try.f24.body).getD .skip
def wp (Aa0 : Option Addr) (na0 : Nat) (ca0 : Nat) (w : World) (Q : Ending → World → Prop) : Prop :=
  Calls Try.prog 26 #[.int .u64 (IntKind.u64.wrap (na0 : Int))] w fun e1 w2 => ∃ (A3 : Option Addr) (n3 : Nat) (c3 : Nat), e1 = .returned (.slice A3 n3 c3) ∧ (
  Calls Try.prog 35 #[.slice A3 n3 c3, .slice Aa0 na0 ca0] w2 fun e4 w5 => ∃ (A6 : Option Addr) (n6 : Nat) (c6 : Nat), e4 = .returned (.slice A6 n6 c6) ∧ (
  Q (.returned (.slice A6 n6 c6)) w5))
def D : Nat → Option DH := dtab []
def tb : List (List Nat × Spec) := []
theorem wp_eq (Aa0 : Option Addr) (na0 : Nat) (ca0 : Nat) (w : World) (Q : Ending → World → Prop) :
    wp Aa0 na0 ca0 w Q = codeW Try.prog hT 9 D (tab tb) [] body (topQ Try.prog hT 9 [.tmp 2] Q) (argsF [.slice Aa0 na0 ca0]) w := by kernel_rfl
theorem ok (Aa0 : Option Addr) (na0 : Nat) (ca0 : Nat) (w : World) (Q : Ending → World → Prop) (h : wp Aa0 na0 ca0 w Q) : Calls Try.prog 24 #[.slice Aa0 na0 ca0] w Q := by
  rw [wp_eq] at h
  exact calls_of_codeW (c := body) (rs := [.tmp 2]) Try.func24 (by kernel_rfl) (by kernel_rfl) (by kernel_rfl) (by kernel_rfl) (by kernel_rfl) (tab_snd (by
    intro x hx
    simp only [tb, List.not_mem_nil] at hx
    )) (by kernel_rfl) h
end f_ref01_PutText
namespace f_num_Put
/-! skein/num.Put: function 25 -/
noncomputable def body : Code := (Try.f25.body).getD .skip
def l0 : Nat → Int → Option Addr → Nat → Nat → World → (Int → (Option Addr) → Nat → Nat → World → Prop) → Prop
  | 0, _, _, _, _, _, _ => False
  | k + 1, xt0, At3, nt3, ct3, w, K0 =>
    sel (decide (xt0 ≥ (128 : Int))) (
    alW w (.cells #[.int .u8 (bor .u8 (IntKind.u8.wrap xt0) (128 : Int))] 5) fun B1 w2 =>
    Runs Try.prog (Builtin.append_ #[22, 22] 22 #[.slice At3 nt3 ct3, .slice (some (⟨B1, 0, Option.none⟩ : Addr)) 1 1]) w2 fun v4 w3 => ∃ (A5 : Option Addr) (n5 : Nat) (c5 : Nat), v4 = (.slice A5 n5 c5) ∧ (
    l0 k (xt0.fdiv (2 ^ 7)) A5 n5 c5 w3 K0)) (
    K0 xt0 At3 nt3 ct3 w)
def wp (xa0 : Int) (w : World) (Q : Ending → World → Prop) : Prop :=
  ∃ k14 : Nat, l0 k14 xa0 none 0 0 w (fun (x6 : Int) (A7 : Option Addr) (n7 : Nat) (c7 : Nat) (w8 : World) => ∀ _ : Fr,
  alW w8 (.cells #[.int .u8 (IntKind.u8.wrap x6)] 5) fun B9 w10 =>
  Runs Try.prog (Builtin.append_ #[22, 22] 22 #[.slice A7 n7 c7, .slice (some (⟨B9, 0, Option.none⟩ : Addr)) 1 1]) w10 fun v12 w11 => ∃ (A13 : Option Addr) (n13 : Nat) (c13 : Nat), v12 = (.slice A13 n13 c13) ∧ (
  Q (.returned (.slice A13 n13 c13)) w11))
def D : Nat → Option DH := dtab []
def l0LO : LO := ⟨[], [], [(0, [0, 3])], []⟩
def l0Tk (k : Nat) : Spec := fun Q σ w =>
  gInt .u64 (σ 0) fun xt0 =>
  gSlice (σ 3) fun At3 nt3 ct3 =>
  l0 k xt0 At3 nt3 ct3 w (fun (xq0 : Int) (Aq3 : Option Addr) (nq3 : Nat) (cq3 : Nat) (w : World) => ∀ d : Fr, Q (.exit 0) (ov d [(0, .int .u64 xq0), (3, .slice Aq3 nq3 cq3)]) w)
def l0T : Spec := fun Q σ w => ∃ k, l0Tk k Q σ w
def l0tb : List (List Nat × Spec) := []
noncomputable def l0b : Code := (subC [0, 0, 0, 1, 1] body).getD .skip
theorem l0_eq (k : Nat) (xt0 : Int) (At3 : Option Addr) (nt3 : Nat) (ct3 : Nat) (Q : PQ) (σ : Fr) (w : World) :
    l0 (k + 1) xt0 At3 nt3 ct3 w (fun (xq0 : Int) (Aq3 : Option Addr) (nq3 : Nat) (cq3 : Nat) (w : World) => ∀ d : Fr, Q (.exit 0) (ov d [(0, .int .u64 xq0), (3, .slice Aq3 nq3 cq3)]) w) = codeW Try.prog hT 19 D (tab l0tb) [0, 0, 0, 1, 1] l0b (thenQ (l0Tk k Q) (widen l0LO Q)) (ov σ [(0, .int .u64 xt0), (3, .slice At3 nt3 ct3)]) w := by kernel_rfl
theorem l0_snd : ∀ c, subC [0, 0, 1, 1] body = some c → Snd Try.prog 19 c l0T := by
  refine loop_of (hT := hT) (D := D) (l := l0tb) (b := l0b) (lo := l0LO) (by kernel_rfl) (by
    intro x hx
    simp only [l0tb, List.not_mem_nil] at hx
    ) (by kernel_rfl) (by kernel_rfl) ?_ ?_
  · intro Q σ w h
    unfold l0Tk at h
    obtain ⟨xt0, h0, hn⟩ := gInt_elim h
    clear h
    have h := hn
    clear hn
    obtain ⟨At3, nt3, ct3, h3, hn⟩ := gSlice_elim h
    clear h
    have h := hn
    clear hn
    exact h
  · intro k Q σ w h
    unfold l0Tk at h
    obtain ⟨xt0, h0, hn⟩ := gInt_elim h
    clear h
    have h := hn
    clear hn
    obtain ⟨At3, nt3, ct3, h3, hn⟩ := gSlice_elim h
    clear h
    have h := hn
    clear hn
    rw [l0_eq (σ := σ)] at h
    have e : (ov σ [(0, .int .u64 xt0), (3, .slice At3 nt3 ct3)]) = σ := ov_self (by simp [h0, h3])
    rw [e] at h
    exact h
def tb : List (List Nat × Spec) := [([0, 0, 1, 1], l0T)]
theorem wp_eq (xa0 : Int) (w : World) (Q : Ending → World → Prop) :
    wp xa0 w Q = codeW Try.prog hT 19 D (tab tb) [] body (topQ Try.prog hT 19 [.tmp 2] Q) (argsF [.int .u64 xa0]) w := by kernel_rfl
theorem ok (xa0 : Int) (w : World) (Q : Ending → World → Prop) (h : wp xa0 w Q) : Calls Try.prog 25 #[.int .u64 xa0] w Q := by
  rw [wp_eq] at h
  exact calls_of_codeW (c := body) (rs := [.tmp 2]) Try.func25 (by kernel_rfl) (by kernel_rfl) (by kernel_rfl) (by kernel_rfl) (by kernel_rfl) (tab_snd (by
    intro x hx
    simp only [tb, List.mem_cons, List.not_mem_nil, or_false] at hx
    subst hx
    exact l0_snd)) (by kernel_rfl) h
end f_num_Put
namespace f_ref01_Put
/-! skein/skeinref01.Put: function 26 -/
noncomputable def body : Code := (Try.f26.body).getD .skip
def l0 : Nat → Int → Option Addr → Nat → Nat → World → (Int → (Option Addr) → Nat → Nat → World → Prop) → Prop
  | 0, _, _, _, _, _, _ => False
  | k + 1, xt0, At3, nt3, ct3, w, K0 =>
    sel (decide (xt0 > (127 : Int))) (
    alW w (.cells #[.int .u8 (IntKind.u8.wrap (IntKind.u64.wrap ((xt0.tmod (128 : Int)) + (128 : Int))))] 5) fun B3 w4 =>
    Runs Try.prog (Builtin.append_ #[22, 22] 22 #[.slice At3 nt3 ct3, .slice (some (⟨B3, 0, Option.none⟩ : Addr)) 1 1]) w4 fun v6 w5 => ∃ (A7 : Option Addr) (n7 : Nat) (c7 : Nat), v6 = (.slice A7 n7 c7) ∧ (
    l0 k (IntKind.u64.wrap (xt0.tdiv (128 : Int))) A7 n7 c7 w5 K0)) (
    K0 xt0 At3 nt3 ct3 w)
def wp (xa0 : Int) (w : World) (Q : Ending → World → Prop) : Prop :=
  alW w (.cells #[] 5) fun B1 w2 =>
  ∃ k16 : Nat, l0 k16 xa0 (some (⟨B1, 0, Option.none⟩ : Addr)) 0 0 w2 (fun (x8 : Int) (A9 : Option Addr) (n9 : Nat) (c9 : Nat) (w10 : World) => ∀ _ : Fr,
  alW w10 (.cells #[.int .u8 (IntKind.u8.wrap x8)] 5) fun B11 w12 =>
  Runs Try.prog (Builtin.append_ #[22, 22] 22 #[.slice A9 n9 c9, .slice (some (⟨B11, 0, Option.none⟩ : Addr)) 1 1]) w12 fun v14 w13 => ∃ (A15 : Option Addr) (n15 : Nat) (c15 : Nat), v14 = (.slice A15 n15 c15) ∧ (
  Q (.returned (.slice A15 n15 c15)) w13))
def D : Nat → Option DH := dtab []
def l0LO : LO := ⟨[], [], [(0, [0, 3])], []⟩
def l0Tk (k : Nat) : Spec := fun Q σ w =>
  gInt .u64 (σ 0) fun xt0 =>
  gSlice (σ 3) fun At3 nt3 ct3 =>
  l0 k xt0 At3 nt3 ct3 w (fun (xq0 : Int) (Aq3 : Option Addr) (nq3 : Nat) (cq3 : Nat) (w : World) => ∀ d : Fr, Q (.exit 0) (ov d [(0, .int .u64 xq0), (3, .slice Aq3 nq3 cq3)]) w)
def l0T : Spec := fun Q σ w => ∃ k, l0Tk k Q σ w
def l0tb : List (List Nat × Spec) := []
noncomputable def l0b : Code := (subC [0, 0, 0, 1, 1] body).getD .skip
theorem l0_eq (k : Nat) (xt0 : Int) (At3 : Option Addr) (nt3 : Nat) (ct3 : Nat) (Q : PQ) (σ : Fr) (w : World) :
    l0 (k + 1) xt0 At3 nt3 ct3 w (fun (xq0 : Int) (Aq3 : Option Addr) (nq3 : Nat) (cq3 : Nat) (w : World) => ∀ d : Fr, Q (.exit 0) (ov d [(0, .int .u64 xq0), (3, .slice Aq3 nq3 cq3)]) w) = codeW Try.prog hT 22 D (tab l0tb) [0, 0, 0, 1, 1] l0b (thenQ (l0Tk k Q) (widen l0LO Q)) (ov σ [(0, .int .u64 xt0), (3, .slice At3 nt3 ct3)]) w := by kernel_rfl
theorem l0_snd : ∀ c, subC [0, 0, 1, 1] body = some c → Snd Try.prog 22 c l0T := by
  refine loop_of (hT := hT) (D := D) (l := l0tb) (b := l0b) (lo := l0LO) (by kernel_rfl) (by
    intro x hx
    simp only [l0tb, List.not_mem_nil] at hx
    ) (by kernel_rfl) (by kernel_rfl) ?_ ?_
  · intro Q σ w h
    unfold l0Tk at h
    obtain ⟨xt0, h0, hn⟩ := gInt_elim h
    clear h
    have h := hn
    clear hn
    obtain ⟨At3, nt3, ct3, h3, hn⟩ := gSlice_elim h
    clear h
    have h := hn
    clear hn
    exact h
  · intro k Q σ w h
    unfold l0Tk at h
    obtain ⟨xt0, h0, hn⟩ := gInt_elim h
    clear h
    have h := hn
    clear hn
    obtain ⟨At3, nt3, ct3, h3, hn⟩ := gSlice_elim h
    clear h
    have h := hn
    clear hn
    rw [l0_eq (σ := σ)] at h
    have e : (ov σ [(0, .int .u64 xt0), (3, .slice At3 nt3 ct3)]) = σ := ov_self (by simp [h0, h3])
    rw [e] at h
    exact h
def tb : List (List Nat × Spec) := [([0, 0, 1, 1], l0T)]
theorem wp_eq (xa0 : Int) (w : World) (Q : Ending → World → Prop) :
    wp xa0 w Q = codeW Try.prog hT 22 D (tab tb) [] body (topQ Try.prog hT 22 [.tmp 2] Q) (argsF [.int .u64 xa0]) w := by kernel_rfl
theorem ok (xa0 : Int) (w : World) (Q : Ending → World → Prop) (h : wp xa0 w Q) : Calls Try.prog 26 #[.int .u64 xa0] w Q := by
  rw [wp_eq] at h
  exact calls_of_codeW (c := body) (rs := [.tmp 2]) Try.func26 (by kernel_rfl) (by kernel_rfl) (by kernel_rfl) (by kernel_rfl) (by kernel_rfl) (tab_snd (by
    intro x hx
    simp only [tb, List.mem_cons, List.not_mem_nil, or_false] at hx
    subst hx
    exact l0_snd)) (by kernel_rfl) h
end f_ref01_Put
namespace f_num_PutS
/-! skein/num.PutS: function 27 -/
noncomputable def body : Code := (Try.f27.body).getD .skip
def wp (xa0 : Int) (w : World) (Q : Ending → World → Prop) : Prop :=
  Calls Try.prog 25 #[.int .u64 (bxor .u64 (IntKind.u64.wrap (IntKind.i64.wrap (xa0 * 2 ^ 1))) (IntKind.u64.wrap (xa0.fdiv (2 ^ 63))))] w fun e1 w2 => ∃ (A3 : Option Addr) (n3 : Nat) (c3 : Nat), e1 = .returned (.slice A3 n3 c3) ∧ (
  Q (.returned (.slice A3 n3 c3)) w2)
def D : Nat → Option DH := dtab []
def tb : List (List Nat × Spec) := []
theorem wp_eq (xa0 : Int) (w : World) (Q : Ending → World → Prop) :
    wp xa0 w Q = codeW Try.prog hT 11 D (tab tb) [] body (topQ Try.prog hT 11 [.tmp 2] Q) (argsF [.int .i64 xa0]) w := by kernel_rfl
theorem ok (xa0 : Int) (w : World) (Q : Ending → World → Prop) (h : wp xa0 w Q) : Calls Try.prog 27 #[.int .i64 xa0] w Q := by
  rw [wp_eq] at h
  exact calls_of_codeW (c := body) (rs := [.tmp 2]) Try.func27 (by kernel_rfl) (by kernel_rfl) (by kernel_rfl) (by kernel_rfl) (by kernel_rfl) (tab_snd (by
    intro x hx
    simp only [tb, List.not_mem_nil] at hx
    )) (by kernel_rfl) h
end f_num_PutS
namespace f_ref01_Fold
/-! skein/skeinref01.Fold: function 28 -/
noncomputable def body : Code := (Try.f28.body).getD .skip
def wp (xa0 : Int) (w : World) (Q : Ending → World → Prop) : Prop :=
  sel (decide (xa0 ≥ (0 : Int))) (
  Q (.returned (.int .u64 (IntKind.u64.wrap ((IntKind.u64.wrap xa0) * (2 : Int))))) w) (
  Q (.returned (.int .u64 (IntKind.u64.wrap ((IntKind.u64.wrap ((IntKind.u64.wrap (IntKind.i64.wrap (0 - (IntKind.i64.wrap (xa0 + (1 : Int)))))) * (2 : Int))) + (1 : Int))))) w)
def D : Nat → Option DH := dtab []
def tb : List (List Nat × Spec) := []
theorem wp_eq (xa0 : Int) (w : World) (Q : Ending → World → Prop) :
    wp xa0 w Q = codeW Try.prog hT 14 D (tab tb) [] body (topQ Try.prog hT 14 [.tmp 2] Q) (argsF [.int .i64 xa0]) w := by kernel_rfl
theorem ok (xa0 : Int) (w : World) (Q : Ending → World → Prop) (h : wp xa0 w Q) : Calls Try.prog 28 #[.int .i64 xa0] w Q := by
  rw [wp_eq] at h
  exact calls_of_codeW (c := body) (rs := [.tmp 2]) Try.func28 (by kernel_rfl) (by kernel_rfl) (by kernel_rfl) (by kernel_rfl) (by kernel_rfl) (tab_snd (by
    intro x hx
    simp only [tb, List.not_mem_nil] at hx
    )) (by kernel_rfl) h
end f_ref01_Fold
namespace f_num_Get
/-! skein/num.Get: function 29 -/
noncomputable def body : Code := (Try.f29.body).getD .skip
def j1 (At0 : Option Addr) (nt0 : Nat) (ct0 : Nat) (xt1 : Int) (xt7 : Int) (xt8 : Int) (w : World) (Kg0 : Int → Int → World → Prop) (Kr : Int → Int → Int → World → Prop) : Prop :=
  sel (decide (xt8 ≥ (IntKind.i64.wrap ((nt0 : Int) - xt1)))) (
  Kr (0 : Int) (0 : Int) (2 : Int) w) (
  optB At0 fun a1 =>
  req (decide (0 ≤ (IntKind.i64.wrap (xt1 + xt8)) ∧ (IntKind.i64.wrap (xt1 + xt8)) < (nt0 : Int))) <|
  ldI w (a1.add ((IntKind.i64.wrap (xt1 + xt8)).toNat * 1)) .u8 fun x2 =>
  sel (xt8 == (9 : Int)) (
  sel (decide (x2 > (1 : Int))) (
  Kr (0 : Int) (0 : Int) (10 : Int) w) (
  req (!decide ((IntKind.u64.wrap (IntKind.i64.wrap ((7 : Int) * xt8))) < 0)) <|
  sel (decide (x2 ≥ (128 : Int))) (
  Kg0 (bor .u64 xt7 (IntKind.u64.wrap ((IntKind.u64.wrap (band .u8 x2 (127 : Int))) * 2 ^ (min (IntKind.u64.wrap (IntKind.i64.wrap ((7 : Int) * xt8))).toNat 64)))) (IntKind.i64.wrap (xt8 + (1 : Int))) w) (
  sel (x2 == (0 : Int)) (
  sel (decide ((IntKind.i64.wrap (xt8 + (1 : Int))) > (1 : Int))) (
  Kr (0 : Int) (0 : Int) (5 : Int) w) (
  Kr (bor .u64 xt7 (IntKind.u64.wrap ((IntKind.u64.wrap (band .u8 x2 (127 : Int))) * 2 ^ (min (IntKind.u64.wrap (IntKind.i64.wrap ((7 : Int) * xt8))).toNat 64)))) (IntKind.i64.wrap (xt1 + (IntKind.i64.wrap (xt8 + (1 : Int))))) (0 : Int) w)) (
  Kr (bor .u64 xt7 (IntKind.u64.wrap ((IntKind.u64.wrap (band .u8 x2 (127 : Int))) * 2 ^ (min (IntKind.u64.wrap (IntKind.i64.wrap ((7 : Int) * xt8))).toNat 64)))) (IntKind.i64.wrap (xt1 + (IntKind.i64.wrap (xt8 + (1 : Int))))) (0 : Int) w)))) (
  req (!decide ((IntKind.u64.wrap (IntKind.i64.wrap ((7 : Int) * xt8))) < 0)) <|
  sel (decide (x2 ≥ (128 : Int))) (
  Kg0 (bor .u64 xt7 (IntKind.u64.wrap ((IntKind.u64.wrap (band .u8 x2 (127 : Int))) * 2 ^ (min (IntKind.u64.wrap (IntKind.i64.wrap ((7 : Int) * xt8))).toNat 64)))) (IntKind.i64.wrap (xt8 + (1 : Int))) w) (
  sel (x2 == (0 : Int)) (
  sel (decide ((IntKind.i64.wrap (xt8 + (1 : Int))) > (1 : Int))) (
  Kr (0 : Int) (0 : Int) (5 : Int) w) (
  Kr (bor .u64 xt7 (IntKind.u64.wrap ((IntKind.u64.wrap (band .u8 x2 (127 : Int))) * 2 ^ (min (IntKind.u64.wrap (IntKind.i64.wrap ((7 : Int) * xt8))).toNat 64)))) (IntKind.i64.wrap (xt1 + (IntKind.i64.wrap (xt8 + (1 : Int))))) (0 : Int) w)) (
  Kr (bor .u64 xt7 (IntKind.u64.wrap ((IntKind.u64.wrap (band .u8 x2 (127 : Int))) * 2 ^ (min (IntKind.u64.wrap (IntKind.i64.wrap ((7 : Int) * xt8))).toNat 64)))) (IntKind.i64.wrap (xt1 + (IntKind.i64.wrap (xt8 + (1 : Int))))) (0 : Int) w))))
def g0 : Nat → Option Addr → Nat → Nat → Int → Int → Int → World → (Int → Int → Int → World → Prop) → Prop
  | 0, _, _, _, _, _, _, _, _ => False
  | k + 1, At0, nt0, ct0, xt1, xt7, xt8, w, Kr =>
    j1 At0 nt0 ct0 xt1 xt7 xt8 w (fun (xr7 : Int) (xr8 : Int) (w : World) => ∀ _ : Fr,
    g0 k At0 nt0 ct0 xt1 xr7 xr8 w Kr) Kr
def s0 (At0 : Option Addr) (nt0 : Nat) (ct0 : Nat) (xt1 : Int) (w : World) (Kr : Int → Int → Int → World → Prop) : Prop :=
  sel (decide (xt1 < (0 : Int))) (
  Kr (0 : Int) (0 : Int) (1 : Int) w) (
  sel (decide (xt1 > (nt0 : Int))) (
  Kr (0 : Int) (0 : Int) (1 : Int) w) (
  j1 At0 nt0 ct0 xt1 (0 : Int) (0 : Int) w (fun (x3 : Int) (x4 : Int) (w5 : World) => ∀ _ : Fr,
  ∃ k6 : Nat, g0 k6 At0 nt0 ct0 xt1 x3 x4 w5 Kr) (fun (x7 : Int) (x8 : Int) (x9 : Int) (w10 : World) => ∀ _ : Fr,
  Kr x7 x8 x9 w10)))
def wp (Aa0 : Option Addr) (na0 : Nat) (ca0 : Nat) (xa1 : Int) (w : World) (Q : Ending → World → Prop) : Prop :=
  s0 Aa0 na0 ca0 xa1 w (fun (x11 : Int) (x12 : Int) (x13 : Int) (w14 : World) => ∀ _ : Fr,
  Q (.returned (.tuple #[.int .u64 x11, .int .i64 x12, .int .i64 x13])) w14)
def D : Nat → Option DH := dtab []
def j1LO : LO := ⟨[], [4, 5, 6], [], [(0, [0, 1, 7, 8])]⟩
def j1T : Spec := fun Q σ w =>
  gSlice (σ 0) fun At0 nt0 ct0 =>
  gInt .i64 (σ 1) fun xt1 =>
  gInt .u64 (σ 7) fun xt7 =>
  gInt .i64 (σ 8) fun xt8 =>
  j1 At0 nt0 ct0 xt1 xt7 xt8 w (fun (xq7 : Int) (xq8 : Int) (w : World) => ∀ d : Fr, Q (.goto 0) (ov d [(0, .slice At0 nt0 ct0), (1, .int .i64 xt1), (7, .int .u64 xq7), (8, .int .i64 xq8)]) w) (fun (xq4 : Int) (xq5 : Int) (xq6 : Int) (w : World) => ∀ d : Fr, Q .ret (ov d [(4, .int .u64 xq4), (5, .int .i64 xq5), (6, .int .i64 xq6)]) w)
def j1tb : List (List Nat × Spec) := []
noncomputable def j1b : Code := (subC [1, 1, 1, 1, 0, 1] body).getD .skip
theorem j1_eq (At0 : Option Addr) (nt0 : Nat) (ct0 : Nat) (xt1 : Int) (xt7 : Int) (xt8 : Int) (Q : PQ) (σ : Fr) (w : World) :
    j1 At0 nt0 ct0 xt1 xt7 xt8 w (fun (xq7 : Int) (xq8 : Int) (w : World) => ∀ d : Fr, Q (.goto 0) (ov d [(0, .slice At0 nt0 ct0), (1, .int .i64 xt1), (7, .int .u64 xq7), (8, .int .i64 xq8)]) w) (fun (xq4 : Int) (xq5 : Int) (xq6 : Int) (w : World) => ∀ d : Fr, Q .ret (ov d [(4, .int .u64 xq4), (5, .int .i64 xq5), (6, .int .i64 xq6)]) w) = codeW Try.prog hT 59 D (tab j1tb) [1, 1, 1, 1, 0, 1] j1b (widen j1LO Q) (ov σ [(0, .slice At0 nt0 ct0), (1, .int .i64 xt1), (7, .int .u64 xt7), (8, .int .i64 xt8)]) w := by kernel_rfl
theorem j1_snd : ∀ c, subC [1, 1, 1, 1, 0, 1] body = some c → Snd Try.prog 59 c j1T := by
  refine cut_of (hT := hT) (D := D) (l := j1tb) (b := j1b) (lo := j1LO) (by kernel_rfl) (by
    intro x hx
    simp only [j1tb, List.not_mem_nil] at hx
    ) (by kernel_rfl) (by kernel_rfl) ?_
  intro Q σ w h
  unfold j1T at h
  obtain ⟨At0, nt0, ct0, h0, hn⟩ := gSlice_elim h
  clear h
  have h := hn
  clear hn
  obtain ⟨xt1, h1, hn⟩ := gInt_elim h
  clear h
  have h := hn
  clear hn
  obtain ⟨xt7, h7, hn⟩ := gInt_elim h
  clear h
  have h := hn
  clear hn
  obtain ⟨xt8, h8, hn⟩ := gInt_elim h
  clear h
  have h := hn
  clear hn
  rw [j1_eq (σ := σ)] at h
  have e : (ov σ [(0, .slice At0 nt0 ct0), (1, .int .i64 xt1), (7, .int .u64 xt7), (8, .int .i64 xt8)]) = σ := ov_self (by simp [h0, h1, h7, h8])
  rw [e] at h
  exact h
def s0LO : LO := ⟨[], [4, 5, 6], [], []⟩
def s0T : Spec := fun Q σ w =>
  gSlice (σ 0) fun At0 nt0 ct0 =>
  gInt .i64 (σ 1) fun xt1 =>
  s0 At0 nt0 ct0 xt1 w (fun (xq4 : Int) (xq5 : Int) (xq6 : Int) (w : World) => ∀ d : Fr, Q .ret (ov d [(4, .int .u64 xq4), (5, .int .i64 xq5), (6, .int .i64 xq6)]) w)
def s0tb : List (List Nat × Spec) := [([1, 1, 1, 1, 0, 1], j1T)]
def g0Tk (k : Nat) : Spec := fun Q σ w =>
  gSlice (σ 0) fun At0 nt0 ct0 =>
  gInt .i64 (σ 1) fun xt1 =>
  gInt .u64 (σ 7) fun xt7 =>
  gInt .i64 (σ 8) fun xt8 =>
  g0 k At0 nt0 ct0 xt1 xt7 xt8 w (fun (xq4 : Int) (xq5 : Int) (xq6 : Int) (w : World) => ∀ d : Fr, Q .ret (ov d [(4, .int .u64 xq4), (5, .int .i64 xq5), (6, .int .i64 xq6)]) w)
theorem g0_eq (k : Nat) (At0 : Option Addr) (nt0 : Nat) (ct0 : Nat) (xt1 : Int) (xt7 : Int) (xt8 : Int) (Q : PQ) (σ : Fr) (w : World) :
    g0 (k + 1) At0 nt0 ct0 xt1 xt7 xt8 w (fun (xq4 : Int) (xq5 : Int) (xq6 : Int) (w : World) => ∀ d : Fr, Q .ret (ov d [(4, .int .u64 xq4), (5, .int .i64 xq5), (6, .int .i64 xq6)]) w) = j1T (gotoQ 0 (g0Tk k Q) Q) (ov σ [(0, .slice At0 nt0 ct0), (1, .int .i64 xt1), (7, .int .u64 xt7), (8, .int .i64 xt8)]) w := by kernel_rfl
noncomputable def s0b : Code := (subC [0, 1] body).getD .skip
theorem s0_eq (At0 : Option Addr) (nt0 : Nat) (ct0 : Nat) (xt1 : Int) (Q : PQ) (σ : Fr) (w : World) :
    s0 At0 nt0 ct0 xt1 w (fun (xq4 : Int) (xq5 : Int) (xq6 : Int) (w : World) => ∀ d : Fr, Q .ret (ov d [(4, .int .u64 xq4), (5, .int .i64 xq5), (6, .int .i64 xq6)]) w) = codeW Try.prog hT 59 D (tab s0tb) [0, 1] s0b (gotoQ 0 (fun σ w => ∃ k, g0Tk k Q σ w) (widen s0LO Q)) (ov σ [(0, .slice At0 nt0 ct0), (1, .int .i64 xt1)]) w := by kernel_rfl
theorem s0_snd : ∀ c, subC [1] body = some c → Snd Try.prog 59 c s0T := by
  refine scope_of (hT := hT) (D := D) (l := s0tb) (b := s0b) (b' := j1b) (pb := [1, 1, 1, 1, 0, 1]) (lb := 0) (Tk := g0Tk) (Tb := j1T) (lo := s0LO) (by kernel_rfl) (by
    intro x hx
    simp only [s0tb, List.mem_cons, List.not_mem_nil, or_false] at hx
    subst hx
    exact j1_snd) (by kernel_rfl) (by kernel_rfl) (by kernel_rfl) (by kernel_rfl) j1_snd ?_ ?_ ?_
  · intro Q σ w h
    unfold g0Tk at h
    obtain ⟨At0, nt0, ct0, h0, hn⟩ := gSlice_elim h
    clear h
    have h := hn
    clear hn
    obtain ⟨xt1, h1, hn⟩ := gInt_elim h
    clear h
    have h := hn
    clear hn
    obtain ⟨xt7, h7, hn⟩ := gInt_elim h
    clear h
    have h := hn
    clear hn
    obtain ⟨xt8, h8, hn⟩ := gInt_elim h
    clear h
    have h := hn
    clear hn
    exact h
  · intro k Q σ w h
    unfold g0Tk at h
    obtain ⟨At0, nt0, ct0, h0, hn⟩ := gSlice_elim h
    clear h
    have h := hn
    clear hn
    obtain ⟨xt1, h1, hn⟩ := gInt_elim h
    clear h
    have h := hn
    clear hn
    obtain ⟨xt7, h7, hn⟩ := gInt_elim h
    clear h
    have h := hn
    clear hn
    obtain ⟨xt8, h8, hn⟩ := gInt_elim h
    clear h
    have h := hn
    clear hn
    rw [g0_eq (σ := σ)] at h
    have e : (ov σ [(0, .slice At0 nt0 ct0), (1, .int .i64 xt1), (7, .int .u64 xt7), (8, .int .i64 xt8)]) = σ := ov_self (by simp [h0, h1, h7, h8])
    rw [e] at h
    exact h
  · intro Q σ w h
    unfold s0T at h
    obtain ⟨At0, nt0, ct0, h0, hn⟩ := gSlice_elim h
    clear h
    have h := hn
    clear hn
    obtain ⟨xt1, h1, hn⟩ := gInt_elim h
    clear h
    have h := hn
    clear hn
    rw [s0_eq (σ := σ)] at h
    have e : (ov σ [(0, .slice At0 nt0 ct0), (1, .int .i64 xt1)]) = σ := ov_self (by simp [h0, h1])
    rw [e] at h
    exact h
def tb : List (List Nat × Spec) := [([1, 1, 1, 1, 0, 1], j1T), ([1], s0T)]
theorem wp_eq (Aa0 : Option Addr) (na0 : Nat) (ca0 : Nat) (xa1 : Int) (w : World) (Q : Ending → World → Prop) :
    wp Aa0 na0 ca0 xa1 w Q = codeW Try.prog hT 59 D (tab tb) [] body (topQ Try.prog hT 59 [.tmp 4, .tmp 5, .tmp 6] Q) (argsF [.slice Aa0 na0 ca0, .int .i64 xa1]) w := by kernel_rfl
theorem ok (Aa0 : Option Addr) (na0 : Nat) (ca0 : Nat) (xa1 : Int) (w : World) (Q : Ending → World → Prop) (h : wp Aa0 na0 ca0 xa1 w Q) : Calls Try.prog 29 #[.slice Aa0 na0 ca0, .int .i64 xa1] w Q := by
  rw [wp_eq] at h
  exact calls_of_codeW (c := body) (rs := [.tmp 4, .tmp 5, .tmp 6]) Try.func29 (by kernel_rfl) (by kernel_rfl) (by kernel_rfl) (by kernel_rfl) (by kernel_rfl) (tab_snd (by
    intro x hx
    simp only [tb, List.mem_cons, List.not_mem_nil, or_false] at hx
    rcases hx with rfl | rfl
    · exact j1_snd
    · exact s0_snd)) (by kernel_rfl) h
end f_num_Get
namespace f_num_GetS
/-! skein/num.GetS: function 30 -/
noncomputable def body : Code := (Try.f30.body).getD .skip
def wp (Aa0 : Option Addr) (na0 : Nat) (ca0 : Nat) (xa1 : Int) (w : World) (Q : Ending → World → Prop) : Prop :=
  Calls Try.prog 29 #[.slice Aa0 na0 ca0, .int .i64 xa1] w fun e1 w2 => ∃ (x3_0 : Int) (x3_1 : Int) (x3_2 : Int), e1 = .returned (.tuple #[.int .u64 x3_0, .int .i64 x3_1, .int .i64 x3_2]) ∧ (
  Q (.returned (.tuple #[.int .i64 (bxor .i64 (IntKind.i64.wrap (x3_0.fdiv (2 ^ 1))) (IntKind.i64.wrap (0 - (IntKind.i64.wrap (band .u64 x3_0 (1 : Int)))))), .int .i64 x3_1, .int .i64 x3_2])) w2)
def D : Nat → Option DH := dtab []
def tb : List (List Nat × Spec) := []
theorem wp_eq (Aa0 : Option Addr) (na0 : Nat) (ca0 : Nat) (xa1 : Int) (w : World) (Q : Ending → World → Prop) :
    wp Aa0 na0 ca0 xa1 w Q = codeW Try.prog hT 27 D (tab tb) [] body (topQ Try.prog hT 27 [.tmp 4, .tmp 5, .tmp 6] Q) (argsF [.slice Aa0 na0 ca0, .int .i64 xa1]) w := by kernel_rfl
theorem ok (Aa0 : Option Addr) (na0 : Nat) (ca0 : Nat) (xa1 : Int) (w : World) (Q : Ending → World → Prop) (h : wp Aa0 na0 ca0 xa1 w Q) : Calls Try.prog 30 #[.slice Aa0 na0 ca0, .int .i64 xa1] w Q := by
  rw [wp_eq] at h
  exact calls_of_codeW (c := body) (rs := [.tmp 4, .tmp 5, .tmp 6]) Try.func30 (by kernel_rfl) (by kernel_rfl) (by kernel_rfl) (by kernel_rfl) (by kernel_rfl) (tab_snd (by
    intro x hx
    simp only [tb, List.not_mem_nil] at hx
    )) (by kernel_rfl) h
end f_num_GetS
namespace f_num_GetText
/-! skein/num.GetText: function 31 -/
noncomputable def body : Code := (Try.f31.body).getD .skip
def wp (Aa0 : Option Addr) (na0 : Nat) (ca0 : Nat) (xa1 : Int) (xa2 : Int) (w : World) (Q : Ending → World → Prop) : Prop :=
  Calls Try.prog 29 #[.slice Aa0 na0 ca0, .int .i64 xa1] w fun e1 w2 => ∃ (x3_0 : Int) (x3_1 : Int) (x3_2 : Int), e1 = .returned (.tuple #[.int .u64 x3_0, .int .i64 x3_1, .int .i64 x3_2]) ∧ (
  sel (x3_2 != (0 : Int)) (
  Q (.returned (.tuple #[.slice none 0 0, .int .i64 (0 : Int), .int .i64 x3_2])) w2) (
  sel (decide (x3_0 > (IntKind.u64.wrap (if (0 : Int) > xa2 then (0 : Int) else xa2)))) (
  Q (.returned (.tuple #[.slice none 0 0, .int .i64 (0 : Int), .int .i64 (4 : Int)])) w2) (
  sel (decide (x3_0 > (IntKind.u64.wrap (IntKind.i64.wrap ((na0 : Int) - x3_1))))) (
  Q (.returned (.tuple #[.slice none 0 0, .int .i64 (0 : Int), .int .i64 (2 : Int)])) w2) (
  req (decide (0 ≤ (IntKind.i64.wrap (x3_1 + (IntKind.i64.wrap x3_0))) ∧ (IntKind.i64.wrap (x3_1 + (IntKind.i64.wrap x3_0))) ≤ (ca0 : Int))) <|
  req (decide (0 ≤ x3_1 ∧ x3_1 ≤ ((IntKind.i64.wrap (x3_1 + (IntKind.i64.wrap x3_0))).toNat : Int))) <|
  Calls Try.prog 47 #[.slice (slA Aa0 x3_1.toNat ca0 1) ((IntKind.i64.wrap (x3_1 + (IntKind.i64.wrap x3_0))).toNat - x3_1.toNat) (ca0 - x3_1.toNat)] w2 fun e4 w5 => ∃ (A6 : Option Addr) (n6 : Nat) (c6 : Nat), e4 = .returned (.slice A6 n6 c6) ∧ (
  Q (.returned (.tuple #[.slice A6 n6 c6, .int .i64 (IntKind.i64.wrap (x3_1 + (IntKind.i64.wrap x3_0))), .int .i64 (0 : Int)])) w5)))))
def D : Nat → Option DH := dtab []
def tb : List (List Nat × Spec) := []
theorem wp_eq (Aa0 : Option Addr) (na0 : Nat) (ca0 : Nat) (xa1 : Int) (xa2 : Int) (w : World) (Q : Ending → World → Prop) :
    wp Aa0 na0 ca0 xa1 xa2 w Q = codeW Try.prog hT 48 D (tab tb) [] body (topQ Try.prog hT 48 [.tmp 6, .tmp 7, .tmp 8] Q) (argsF [.slice Aa0 na0 ca0, .int .i64 xa1, .int .i64 xa2]) w := by kernel_rfl
theorem ok (Aa0 : Option Addr) (na0 : Nat) (ca0 : Nat) (xa1 : Int) (xa2 : Int) (w : World) (Q : Ending → World → Prop) (h : wp Aa0 na0 ca0 xa1 xa2 w Q) : Calls Try.prog 31 #[.slice Aa0 na0 ca0, .int .i64 xa1, .int .i64 xa2] w Q := by
  rw [wp_eq] at h
  exact calls_of_codeW (c := body) (rs := [.tmp 6, .tmp 7, .tmp 8]) Try.func31 (by kernel_rfl) (by kernel_rfl) (by kernel_rfl) (by kernel_rfl) (by kernel_rfl) (tab_snd (by
    intro x hx
    simp only [tb, List.not_mem_nil] at hx
    )) (by kernel_rfl) h
end f_num_GetText
namespace f_ref01_Get
/-! skein/skeinref01.Get: function 32 -/
noncomputable def body : Code := (Try.f32.body).getD .skip
def l0 : Nat → Option Addr → Nat → Nat → Int → Int → Int → Int → World → (World → Prop) → (Int → Int → Int → World → Prop) → Prop
  | 0, _, _, _, _, _, _, _, _, _, _ => False
  | k + 1, At0, nt0, ct0, xt1, xt7, xt8, xt9, w, K0, Kr =>
    sel (decide (xt9 < (nt0 : Int))) (
    optB At0 fun a1 =>
    req (decide (0 ≤ xt9 ∧ xt9 < (nt0 : Int))) <|
    ldI w (a1.add (xt9.toNat * 1)) .u8 fun x2 =>
    sel ((IntKind.i64.wrap (xt9 - xt1)) == (9 : Int)) (
    sel (decide ((IntKind.u64.wrap x2) > (1 : Int))) (
    Kr (0 : Int) (0 : Int) (10 : Int) w) (
    sel (decide ((IntKind.u64.wrap x2) < (128 : Int))) (
    sel ((IntKind.u64.wrap x2) == (0 : Int)) (
    sel (decide (xt9 > xt1)) (
    Kr (0 : Int) (0 : Int) (5 : Int) w) (
    Kr (IntKind.u64.wrap (xt7 + (IntKind.u64.wrap (((IntKind.u64.wrap x2).tmod (128 : Int)) * xt8)))) (IntKind.i64.wrap (xt9 + (1 : Int))) (0 : Int) w)) (
    Kr (IntKind.u64.wrap (xt7 + (IntKind.u64.wrap (((IntKind.u64.wrap x2).tmod (128 : Int)) * xt8)))) (IntKind.i64.wrap (xt9 + (1 : Int))) (0 : Int) w)) (
    l0 k At0 nt0 ct0 xt1 (IntKind.u64.wrap (xt7 + (IntKind.u64.wrap (((IntKind.u64.wrap x2).tmod (128 : Int)) * xt8)))) (IntKind.u64.wrap (xt8 * (128 : Int))) (IntKind.i64.wrap (xt9 + (1 : Int))) w K0 Kr))) (
    sel (decide ((IntKind.u64.wrap x2) < (128 : Int))) (
    sel ((IntKind.u64.wrap x2) == (0 : Int)) (
    sel (decide (xt9 > xt1)) (
    Kr (0 : Int) (0 : Int) (5 : Int) w) (
    Kr (IntKind.u64.wrap (xt7 + (IntKind.u64.wrap (((IntKind.u64.wrap x2).tmod (128 : Int)) * xt8)))) (IntKind.i64.wrap (xt9 + (1 : Int))) (0 : Int) w)) (
    Kr (IntKind.u64.wrap (xt7 + (IntKind.u64.wrap (((IntKind.u64.wrap x2).tmod (128 : Int)) * xt8)))) (IntKind.i64.wrap (xt9 + (1 : Int))) (0 : Int) w)) (
    l0 k At0 nt0 ct0 xt1 (IntKind.u64.wrap (xt7 + (IntKind.u64.wrap (((IntKind.u64.wrap x2).tmod (128 : Int)) * xt8)))) (IntKind.u64.wrap (xt8 * (128 : Int))) (IntKind.i64.wrap (xt9 + (1 : Int))) w K0 Kr))) (
    K0  w)
def wp (Aa0 : Option Addr) (na0 : Nat) (ca0 : Nat) (xa1 : Int) (w : World) (Q : Ending → World → Prop) : Prop :=
  sel (decide (xa1 < (0 : Int))) (
  Q (.returned (.tuple #[.int .u64 (0 : Int), .int .i64 (0 : Int), .int .i64 (1 : Int)])) w) (
  sel (decide (xa1 > (na0 : Int))) (
  Q (.returned (.tuple #[.int .u64 (0 : Int), .int .i64 (0 : Int), .int .i64 (1 : Int)])) w) (
  ∃ k8 : Nat, l0 k8 Aa0 na0 ca0 xa1 (0 : Int) (1 : Int) xa1 w (fun (w3 : World) => ∀ _ : Fr,
  Q (.returned (.tuple #[.int .u64 (0 : Int), .int .i64 (0 : Int), .int .i64 (2 : Int)])) w3) (fun (x4 : Int) (x5 : Int) (x6 : Int) (w7 : World) => ∀ _ : Fr,
  Q (.returned (.tuple #[.int .u64 x4, .int .i64 x5, .int .i64 x6])) w7)))
def D : Nat → Option DH := dtab []
def l0LO : LO := ⟨[], [4, 5, 6], [(0, [])], []⟩
def l0Tk (k : Nat) : Spec := fun Q σ w =>
  gSlice (σ 0) fun At0 nt0 ct0 =>
  gInt .i64 (σ 1) fun xt1 =>
  gInt .u64 (σ 7) fun xt7 =>
  gInt .u64 (σ 8) fun xt8 =>
  gInt .i64 (σ 9) fun xt9 =>
  l0 k At0 nt0 ct0 xt1 xt7 xt8 xt9 w (fun (w : World) => ∀ d : Fr, Q (.exit 0) (ov d []) w) (fun (xq4 : Int) (xq5 : Int) (xq6 : Int) (w : World) => ∀ d : Fr, Q .ret (ov d [(4, .int .u64 xq4), (5, .int .i64 xq5), (6, .int .i64 xq6)]) w)
def l0T : Spec := fun Q σ w => ∃ k, l0Tk k Q σ w
def l0tb : List (List Nat × Spec) := []
noncomputable def l0b : Code := (subC [0, 0, 1, 0, 1, 1, 1] body).getD .skip
theorem l0_eq (k : Nat) (At0 : Option Addr) (nt0 : Nat) (ct0 : Nat) (xt1 : Int) (xt7 : Int) (xt8 : Int) (xt9 : Int) (Q : PQ) (σ : Fr) (w : World) :
    l0 (k + 1) At0 nt0 ct0 xt1 xt7 xt8 xt9 w (fun (w : World) => ∀ d : Fr, Q (.exit 0) (ov d []) w) (fun (xq4 : Int) (xq5 : Int) (xq6 : Int) (w : World) => ∀ d : Fr, Q .ret (ov d [(4, .int .u64 xq4), (5, .int .i64 xq5), (6, .int .i64 xq6)]) w) = codeW Try.prog hT 59 D (tab l0tb) [0, 0, 1, 0, 1, 1, 1] l0b (thenQ (l0Tk k Q) (widen l0LO Q)) (ov σ [(0, .slice At0 nt0 ct0), (1, .int .i64 xt1), (7, .int .u64 xt7), (8, .int .u64 xt8), (9, .int .i64 xt9)]) w := by kernel_rfl
theorem l0_snd : ∀ c, subC [0, 1, 0, 1, 1, 1] body = some c → Snd Try.prog 59 c l0T := by
  refine loop_of (hT := hT) (D := D) (l := l0tb) (b := l0b) (lo := l0LO) (by kernel_rfl) (by
    intro x hx
    simp only [l0tb, List.not_mem_nil] at hx
    ) (by kernel_rfl) (by kernel_rfl) ?_ ?_
  · intro Q σ w h
    unfold l0Tk at h
    obtain ⟨At0, nt0, ct0, h0, hn⟩ := gSlice_elim h
    clear h
    have h := hn
    clear hn
    obtain ⟨xt1, h1, hn⟩ := gInt_elim h
    clear h
    have h := hn
    clear hn
    obtain ⟨xt7, h7, hn⟩ := gInt_elim h
    clear h
    have h := hn
    clear hn
    obtain ⟨xt8, h8, hn⟩ := gInt_elim h
    clear h
    have h := hn
    clear hn
    obtain ⟨xt9, h9, hn⟩ := gInt_elim h
    clear h
    have h := hn
    clear hn
    exact h
  · intro k Q σ w h
    unfold l0Tk at h
    obtain ⟨At0, nt0, ct0, h0, hn⟩ := gSlice_elim h
    clear h
    have h := hn
    clear hn
    obtain ⟨xt1, h1, hn⟩ := gInt_elim h
    clear h
    have h := hn
    clear hn
    obtain ⟨xt7, h7, hn⟩ := gInt_elim h
    clear h
    have h := hn
    clear hn
    obtain ⟨xt8, h8, hn⟩ := gInt_elim h
    clear h
    have h := hn
    clear hn
    obtain ⟨xt9, h9, hn⟩ := gInt_elim h
    clear h
    have h := hn
    clear hn
    rw [l0_eq (σ := σ)] at h
    have e : (ov σ [(0, .slice At0 nt0 ct0), (1, .int .i64 xt1), (7, .int .u64 xt7), (8, .int .u64 xt8), (9, .int .i64 xt9)]) = σ := ov_self (by simp [h0, h1, h7, h8, h9])
    rw [e] at h
    exact h
def tb : List (List Nat × Spec) := [([0, 1, 0, 1, 1, 1], l0T)]
theorem wp_eq (Aa0 : Option Addr) (na0 : Nat) (ca0 : Nat) (xa1 : Int) (w : World) (Q : Ending → World → Prop) :
    wp Aa0 na0 ca0 xa1 w Q = codeW Try.prog hT 59 D (tab tb) [] body (topQ Try.prog hT 59 [.tmp 4, .tmp 5, .tmp 6] Q) (argsF [.slice Aa0 na0 ca0, .int .i64 xa1]) w := by kernel_rfl
theorem ok (Aa0 : Option Addr) (na0 : Nat) (ca0 : Nat) (xa1 : Int) (w : World) (Q : Ending → World → Prop) (h : wp Aa0 na0 ca0 xa1 w Q) : Calls Try.prog 32 #[.slice Aa0 na0 ca0, .int .i64 xa1] w Q := by
  rw [wp_eq] at h
  exact calls_of_codeW (c := body) (rs := [.tmp 4, .tmp 5, .tmp 6]) Try.func32 (by kernel_rfl) (by kernel_rfl) (by kernel_rfl) (by kernel_rfl) (by kernel_rfl) (tab_snd (by
    intro x hx
    simp only [tb, List.mem_cons, List.not_mem_nil, or_false] at hx
    subst hx
    exact l0_snd)) (by kernel_rfl) h
end f_ref01_Get
namespace f_ref01_GetS
/-! skein/skeinref01.GetS: function 33 -/
noncomputable def body : Code := (Try.f33.body).getD .skip
def wp (Aa0 : Option Addr) (na0 : Nat) (ca0 : Nat) (xa1 : Int) (w : World) (Q : Ending → World → Prop) : Prop :=
  Calls Try.prog 32 #[.slice Aa0 na0 ca0, .int .i64 xa1] w fun e1 w2 => ∃ (x3_0 : Int) (x3_1 : Int) (x3_2 : Int), e1 = .returned (.tuple #[.int .u64 x3_0, .int .i64 x3_1, .int .i64 x3_2]) ∧ (
  sel (x3_2 != (0 : Int)) (
  Q (.returned (.tuple #[.int .i64 (0 : Int), .int .i64 (0 : Int), .int .i64 x3_2])) w2) (
  Calls Try.prog 48 #[.int .u64 x3_0] w2 fun e4 w5 => ∃ (x6 : Int), e4 = .returned (.int .i64 x6) ∧ (
  Q (.returned (.tuple #[.int .i64 x6, .int .i64 x3_1, .int .i64 (0 : Int)])) w5)))
def D : Nat → Option DH := dtab []
def tb : List (List Nat × Spec) := []
theorem wp_eq (Aa0 : Option Addr) (na0 : Nat) (ca0 : Nat) (xa1 : Int) (w : World) (Q : Ending → World → Prop) :
    wp Aa0 na0 ca0 xa1 w Q = codeW Try.prog hT 23 D (tab tb) [] body (topQ Try.prog hT 23 [.tmp 4, .tmp 5, .tmp 6] Q) (argsF [.slice Aa0 na0 ca0, .int .i64 xa1]) w := by kernel_rfl
theorem ok (Aa0 : Option Addr) (na0 : Nat) (ca0 : Nat) (xa1 : Int) (w : World) (Q : Ending → World → Prop) (h : wp Aa0 na0 ca0 xa1 w Q) : Calls Try.prog 33 #[.slice Aa0 na0 ca0, .int .i64 xa1] w Q := by
  rw [wp_eq] at h
  exact calls_of_codeW (c := body) (rs := [.tmp 4, .tmp 5, .tmp 6]) Try.func33 (by kernel_rfl) (by kernel_rfl) (by kernel_rfl) (by kernel_rfl) (by kernel_rfl) (tab_snd (by
    intro x hx
    simp only [tb, List.not_mem_nil] at hx
    )) (by kernel_rfl) h
end f_ref01_GetS
namespace f_ref01_GetText
/-! skein/skeinref01.GetText: function 34 -/
noncomputable def body : Code := (Try.f34.body).getD .skip
def j0 (At0 : Option Addr) (nt0 : Nat) (ct0 : Nat) (xt2 : Int) (xt9 : Int) (xt10 : Int) (w : World) (Kr : (Option Addr) → Nat → Nat → Int → Int → World → Prop) : Prop :=
  sel (decide (xt9 > (IntKind.u64.wrap xt2))) (
  Kr none 0 0 (0 : Int) (4 : Int) w) (
  sel (decide (xt9 > (IntKind.u64.wrap (IntKind.i64.wrap ((nt0 : Int) - xt10))))) (
  Kr none 0 0 (0 : Int) (2 : Int) w) (
  Calls Try.prog 36 #[.slice At0 nt0 ct0, .int .i64 xt10, .int .i64 (IntKind.i64.wrap (xt10 + (IntKind.i64.wrap xt9)))] w fun e4 w5 => ∃ (A6 : Option Addr) (n6 : Nat) (c6 : Nat), e4 = .returned (.slice A6 n6 c6) ∧ (
  Kr A6 n6 c6 (IntKind.i64.wrap (xt10 + (IntKind.i64.wrap xt9))) (0 : Int) w5)))
def wp (Aa0 : Option Addr) (na0 : Nat) (ca0 : Nat) (xa1 : Int) (xa2 : Int) (w : World) (Q : Ending → World → Prop) : Prop :=
  Calls Try.prog 32 #[.slice Aa0 na0 ca0, .int .i64 xa1] w fun e1 w2 => ∃ (x3_0 : Int) (x3_1 : Int) (x3_2 : Int), e1 = .returned (.tuple #[.int .u64 x3_0, .int .i64 x3_1, .int .i64 x3_2]) ∧ (
  sel (x3_2 != (0 : Int)) (
  Q (.returned (.tuple #[.slice none 0 0, .int .i64 (0 : Int), .int .i64 x3_2])) w2) (
  sel (decide (xa2 < (0 : Int))) (
  j0 Aa0 na0 ca0 (0 : Int) x3_0 x3_1 w2 (fun (A7 : Option Addr) (n7 : Nat) (c7 : Nat) (x8 : Int) (x9 : Int) (w10 : World) => ∀ _ : Fr,
  Q (.returned (.tuple #[.slice A7 n7 c7, .int .i64 x8, .int .i64 x9])) w10)) (
  j0 Aa0 na0 ca0 xa2 x3_0 x3_1 w2 (fun (A11 : Option Addr) (n11 : Nat) (c11 : Nat) (x12 : Int) (x13 : Int) (w14 : World) => ∀ _ : Fr,
  Q (.returned (.tuple #[.slice A11 n11 c11, .int .i64 x12, .int .i64 x13])) w14))))
def D : Nat → Option DH := dtab []
def j0LO : LO := ⟨[], [6, 7, 8], [], []⟩
def j0T : Spec := fun Q σ w =>
  gSlice (σ 0) fun At0 nt0 ct0 =>
  gInt .i64 (σ 2) fun xt2 =>
  gInt .u64 (σ 9) fun xt9 =>
  gInt .i64 (σ 10) fun xt10 =>
  j0 At0 nt0 ct0 xt2 xt9 xt10 w (fun (Aq6 : Option Addr) (nq6 : Nat) (cq6 : Nat) (xq7 : Int) (xq8 : Int) (w : World) => ∀ d : Fr, Q .ret (ov d [(6, .slice Aq6 nq6 cq6), (7, .int .i64 xq7), (8, .int .i64 xq8)]) w)
def j0tb : List (List Nat × Spec) := []
noncomputable def j0b : Code := (subC [1, 1, 1, 1] body).getD .skip
theorem j0_eq (At0 : Option Addr) (nt0 : Nat) (ct0 : Nat) (xt2 : Int) (xt9 : Int) (xt10 : Int) (Q : PQ) (σ : Fr) (w : World) :
    j0 At0 nt0 ct0 xt2 xt9 xt10 w (fun (Aq6 : Option Addr) (nq6 : Nat) (cq6 : Nat) (xq7 : Int) (xq8 : Int) (w : World) => ∀ d : Fr, Q .ret (ov d [(6, .slice Aq6 nq6 cq6), (7, .int .i64 xq7), (8, .int .i64 xq8)]) w) = codeW Try.prog hT 46 D (tab j0tb) [1, 1, 1, 1] j0b (widen j0LO Q) (ov σ [(0, .slice At0 nt0 ct0), (2, .int .i64 xt2), (9, .int .u64 xt9), (10, .int .i64 xt10)]) w := by kernel_rfl
theorem j0_snd : ∀ c, subC [1, 1, 1, 1] body = some c → Snd Try.prog 46 c j0T := by
  refine cut_of (hT := hT) (D := D) (l := j0tb) (b := j0b) (lo := j0LO) (by kernel_rfl) (by
    intro x hx
    simp only [j0tb, List.not_mem_nil] at hx
    ) (by kernel_rfl) (by kernel_rfl) ?_
  intro Q σ w h
  unfold j0T at h
  obtain ⟨At0, nt0, ct0, h0, hn⟩ := gSlice_elim h
  clear h
  have h := hn
  clear hn
  obtain ⟨xt2, h2, hn⟩ := gInt_elim h
  clear h
  have h := hn
  clear hn
  obtain ⟨xt9, h9, hn⟩ := gInt_elim h
  clear h
  have h := hn
  clear hn
  obtain ⟨xt10, h10, hn⟩ := gInt_elim h
  clear h
  have h := hn
  clear hn
  rw [j0_eq (σ := σ)] at h
  have e : (ov σ [(0, .slice At0 nt0 ct0), (2, .int .i64 xt2), (9, .int .u64 xt9), (10, .int .i64 xt10)]) = σ := ov_self (by simp [h0, h2, h9, h10])
  rw [e] at h
  exact h
def tb : List (List Nat × Spec) := [([1, 1, 1, 1], j0T)]
theorem wp_eq (Aa0 : Option Addr) (na0 : Nat) (ca0 : Nat) (xa1 : Int) (xa2 : Int) (w : World) (Q : Ending → World → Prop) :
    wp Aa0 na0 ca0 xa1 xa2 w Q = codeW Try.prog hT 46 D (tab tb) [] body (topQ Try.prog hT 46 [.tmp 6, .tmp 7, .tmp 8] Q) (argsF [.slice Aa0 na0 ca0, .int .i64 xa1, .int .i64 xa2]) w := by kernel_rfl
theorem ok (Aa0 : Option Addr) (na0 : Nat) (ca0 : Nat) (xa1 : Int) (xa2 : Int) (w : World) (Q : Ending → World → Prop) (h : wp Aa0 na0 ca0 xa1 xa2 w Q) : Calls Try.prog 34 #[.slice Aa0 na0 ca0, .int .i64 xa1, .int .i64 xa2] w Q := by
  rw [wp_eq] at h
  exact calls_of_codeW (c := body) (rs := [.tmp 6, .tmp 7, .tmp 8]) Try.func34 (by kernel_rfl) (by kernel_rfl) (by kernel_rfl) (by kernel_rfl) (by kernel_rfl) (tab_snd (by
    intro x hx
    simp only [tb, List.mem_cons, List.not_mem_nil, or_false] at hx
    subst hx
    exact j0_snd)) (by kernel_rfl) h
end f_ref01_GetText
namespace f_ref01_Cat
/-! skein/skeinref01.Cat: function 35 -/
noncomputable def body : Code := (Try.f35.body).getD .skip
def l0 : Nat → Option Addr → Nat → Nat → Option Addr → Nat → Nat → Int → World → ((Option Addr) → Nat → Nat → World → Prop) → Prop
  | 0, _, _, _, _, _, _, _, _, _ => False
  | k + 1, At0, nt0, ct0, At5, nt5, ct5, xt6, w, K0 =>
    sel (decide (xt6 < (nt0 : Int))) (
    optB At0 fun a3 =>
    req (decide (0 ≤ xt6 ∧ xt6 < (nt0 : Int))) <|
    ldI w (a3.add (xt6.toNat * 1)) .u8 fun x4 =>
    alW w (.cells #[.int .u8 x4] 5) fun B5 w6 =>
    Runs Try.prog (Builtin.append_ #[22, 22] 22 #[.slice At5 nt5 ct5, .slice (some (⟨B5, 0, Option.none⟩ : Addr)) 1 1]) w6 fun v8 w7 => ∃ (A9 : Option Addr) (n9 : Nat) (c9 : Nat), v8 = (.slice A9 n9 c9) ∧ (
    l0 k At0 nt0 ct0 A9 n9 c9 (IntKind.i64.wrap (xt6 + (1 : Int))) w7 K0)) (
    K0 At5 nt5 ct5 w)
def l1 : Nat → Option Addr → Nat → Nat → Option Addr → Nat → Nat → Int → World → ((Option Addr) → Nat → Nat → World → Prop) → Prop
  | 0, _, _, _, _, _, _, _, _, _ => False
  | k + 1, At1, nt1, ct1, At5, nt5, ct5, xt7, w, K2 =>
    sel (decide (xt7 < (nt1 : Int))) (
    optB At1 fun a12 =>
    req (decide (0 ≤ xt7 ∧ xt7 < (nt1 : Int))) <|
    ldI w (a12.add (xt7.toNat * 1)) .u8 fun x13 =>
    alW w (.cells #[.int .u8 x13] 5) fun B14 w15 =>
    Runs Try.prog (Builtin.append_ #[22, 22] 22 #[.slice At5 nt5 ct5, .slice (some (⟨B14, 0, Option.none⟩ : Addr)) 1 1]) w15 fun v17 w16 => ∃ (A18 : Option Addr) (n18 : Nat) (c18 : Nat), v17 = (.slice A18 n18 c18) ∧ (
    l1 k At1 nt1 ct1 A18 n18 c18 (IntKind.i64.wrap (xt7 + (1 : Int))) w16 K2)) (
    K2 At5 nt5 ct5 w)
def wp (Aa0 : Option Addr) (na0 : Nat) (ca0 : Nat) (Aa1 : Option Addr) (na1 : Nat) (ca1 : Nat) (w : World) (Q : Ending → World → Prop) : Prop :=
  alW w (.cells #[] 5) fun B1 w2 =>
  ∃ k22 : Nat, l0 k22 Aa0 na0 ca0 (some (⟨B1, 0, Option.none⟩ : Addr)) 0 0 (0 : Int) w2 (fun (A10 : Option Addr) (n10 : Nat) (c10 : Nat) (w11 : World) => ∀ _ : Fr,
  ∃ k21 : Nat, l1 k21 Aa1 na1 ca1 A10 n10 c10 (0 : Int) w11 (fun (A19 : Option Addr) (n19 : Nat) (c19 : Nat) (w20 : World) => ∀ _ : Fr,
  Q (.returned (.slice A19 n19 c19)) w20))
def D : Nat → Option DH := dtab []
def l0LO : LO := ⟨[], [], [(0, [1, 5])], []⟩
def l0Tk (k : Nat) : Spec := fun Q σ w =>
  gSlice (σ 0) fun At0 nt0 ct0 =>
  gSlice (σ 5) fun At5 nt5 ct5 =>
  gInt .i64 (σ 6) fun xt6 =>
  l0 k At0 nt0 ct0 At5 nt5 ct5 xt6 w (fun (Aq5 : Option Addr) (nq5 : Nat) (cq5 : Nat) (w : World) => ∀ d : Fr, Q (.exit 0) (ov d [(1, σ 1), (5, .slice Aq5 nq5 cq5)]) w)
def l0T : Spec := fun Q σ w => ∃ k, l0Tk k Q σ w
def l0tb : List (List Nat × Spec) := []
noncomputable def l0b : Code := (subC [0, 0, 1, 0, 1, 1] body).getD .skip
theorem l0_eq (k : Nat) (At0 : Option Addr) (nt0 : Nat) (ct0 : Nat) (At5 : Option Addr) (nt5 : Nat) (ct5 : Nat) (xt6 : Int) (Q : PQ) (σ : Fr) (w : World) :
    l0 (k + 1) At0 nt0 ct0 At5 nt5 ct5 xt6 w (fun (Aq5 : Option Addr) (nq5 : Nat) (cq5 : Nat) (w : World) => ∀ d : Fr, Q (.exit 0) (ov d [(1, σ 1), (5, .slice Aq5 nq5 cq5)]) w) = codeW Try.prog hT 36 D (tab l0tb) [0, 0, 1, 0, 1, 1] l0b (thenQ (l0Tk k Q) (widen l0LO Q)) (ov σ [(0, .slice At0 nt0 ct0), (5, .slice At5 nt5 ct5), (6, .int .i64 xt6)]) w := by kernel_rfl
theorem l0_snd : ∀ c, subC [0, 1, 0, 1, 1] body = some c → Snd Try.prog 36 c l0T := by
  refine loop_of (hT := hT) (D := D) (l := l0tb) (b := l0b) (lo := l0LO) (by kernel_rfl) (by
    intro x hx
    simp only [l0tb, List.not_mem_nil] at hx
    ) (by kernel_rfl) (by kernel_rfl) ?_ ?_
  · intro Q σ w h
    unfold l0Tk at h
    obtain ⟨At0, nt0, ct0, h0, hn⟩ := gSlice_elim h
    clear h
    have h := hn
    clear hn
    obtain ⟨At5, nt5, ct5, h5, hn⟩ := gSlice_elim h
    clear h
    have h := hn
    clear hn
    obtain ⟨xt6, h6, hn⟩ := gInt_elim h
    clear h
    have h := hn
    clear hn
    exact h
  · intro k Q σ w h
    unfold l0Tk at h
    obtain ⟨At0, nt0, ct0, h0, hn⟩ := gSlice_elim h
    clear h
    have h := hn
    clear hn
    obtain ⟨At5, nt5, ct5, h5, hn⟩ := gSlice_elim h
    clear h
    have h := hn
    clear hn
    obtain ⟨xt6, h6, hn⟩ := gInt_elim h
    clear h
    have h := hn
    clear hn
    rw [l0_eq (σ := σ)] at h
    have e : (ov σ [(0, .slice At0 nt0 ct0), (5, .slice At5 nt5 ct5), (6, .int .i64 xt6)]) = σ := ov_self (by simp [h0, h5, h6])
    rw [e] at h
    exact h
def l1LO : LO := ⟨[], [], [(2, [5])], []⟩
def l1Tk (k : Nat) : Spec := fun Q σ w =>
  gSlice (σ 1) fun At1 nt1 ct1 =>
  gSlice (σ 5) fun At5 nt5 ct5 =>
  gInt .i64 (σ 7) fun xt7 =>
  l1 k At1 nt1 ct1 At5 nt5 ct5 xt7 w (fun (Aq5 : Option Addr) (nq5 : Nat) (cq5 : Nat) (w : World) => ∀ d : Fr, Q (.exit 2) (ov d [(5, .slice Aq5 nq5 cq5)]) w)
def l1T : Spec := fun Q σ w => ∃ k, l1Tk k Q σ w
def l1tb : List (List Nat × Spec) := []
noncomputable def l1b : Code := (subC [0, 0, 1, 0, 1, 1, 1] body).getD .skip
theorem l1_eq (k : Nat) (At1 : Option Addr) (nt1 : Nat) (ct1 : Nat) (At5 : Option Addr) (nt5 : Nat) (ct5 : Nat) (xt7 : Int) (Q : PQ) (σ : Fr) (w : World) :
    l1 (k + 1) At1 nt1 ct1 At5 nt5 ct5 xt7 w (fun (Aq5 : Option Addr) (nq5 : Nat) (cq5 : Nat) (w : World) => ∀ d : Fr, Q (.exit 2) (ov d [(5, .slice Aq5 nq5 cq5)]) w) = codeW Try.prog hT 36 D (tab l1tb) [0, 0, 1, 0, 1, 1, 1] l1b (thenQ (l1Tk k Q) (widen l1LO Q)) (ov σ [(1, .slice At1 nt1 ct1), (5, .slice At5 nt5 ct5), (7, .int .i64 xt7)]) w := by kernel_rfl
theorem l1_snd : ∀ c, subC [0, 1, 0, 1, 1, 1] body = some c → Snd Try.prog 36 c l1T := by
  refine loop_of (hT := hT) (D := D) (l := l1tb) (b := l1b) (lo := l1LO) (by kernel_rfl) (by
    intro x hx
    simp only [l1tb, List.not_mem_nil] at hx
    ) (by kernel_rfl) (by kernel_rfl) ?_ ?_
  · intro Q σ w h
    unfold l1Tk at h
    obtain ⟨At1, nt1, ct1, h1, hn⟩ := gSlice_elim h
    clear h
    have h := hn
    clear hn
    obtain ⟨At5, nt5, ct5, h5, hn⟩ := gSlice_elim h
    clear h
    have h := hn
    clear hn
    obtain ⟨xt7, h7, hn⟩ := gInt_elim h
    clear h
    have h := hn
    clear hn
    exact h
  · intro k Q σ w h
    unfold l1Tk at h
    obtain ⟨At1, nt1, ct1, h1, hn⟩ := gSlice_elim h
    clear h
    have h := hn
    clear hn
    obtain ⟨At5, nt5, ct5, h5, hn⟩ := gSlice_elim h
    clear h
    have h := hn
    clear hn
    obtain ⟨xt7, h7, hn⟩ := gInt_elim h
    clear h
    have h := hn
    clear hn
    rw [l1_eq (σ := σ)] at h
    have e : (ov σ [(1, .slice At1 nt1 ct1), (5, .slice At5 nt5 ct5), (7, .int .i64 xt7)]) = σ := ov_self (by simp [h1, h5, h7])
    rw [e] at h
    exact h
def tb : List (List Nat × Spec) := [([0, 1, 0, 1, 1], l0T), ([0, 1, 0, 1, 1, 1], l1T)]
theorem wp_eq (Aa0 : Option Addr) (na0 : Nat) (ca0 : Nat) (Aa1 : Option Addr) (na1 : Nat) (ca1 : Nat) (w : World) (Q : Ending → World → Prop) :
    wp Aa0 na0 ca0 Aa1 na1 ca1 w Q = codeW Try.prog hT 36 D (tab tb) [] body (topQ Try.prog hT 36 [.tmp 4] Q) (argsF [.slice Aa0 na0 ca0, .slice Aa1 na1 ca1]) w := by kernel_rfl
theorem ok (Aa0 : Option Addr) (na0 : Nat) (ca0 : Nat) (Aa1 : Option Addr) (na1 : Nat) (ca1 : Nat) (w : World) (Q : Ending → World → Prop) (h : wp Aa0 na0 ca0 Aa1 na1 ca1 w Q) : Calls Try.prog 35 #[.slice Aa0 na0 ca0, .slice Aa1 na1 ca1] w Q := by
  rw [wp_eq] at h
  exact calls_of_codeW (c := body) (rs := [.tmp 4]) Try.func35 (by kernel_rfl) (by kernel_rfl) (by kernel_rfl) (by kernel_rfl) (by kernel_rfl) (tab_snd (by
    intro x hx
    simp only [tb, List.mem_cons, List.not_mem_nil, or_false] at hx
    rcases hx with rfl | rfl
    · exact l0_snd
    · exact l1_snd)) (by kernel_rfl) h
end f_ref01_Cat
namespace f_ref01_Piece
/-! skein/skeinref01.Piece: function 36 -/
noncomputable def body : Code := (Try.f36.body).getD .skip
def l1 : Nat → Option Addr → Nat → Nat → Int → Option Addr → Nat → Nat → Int → World → ((Option Addr) → Nat → Nat → World → Prop) → Prop
  | 0, _, _, _, _, _, _, _, _, _, _ => False
  | k + 1, At0, nt0, ct0, xt2, At7, nt7, ct7, xt8, w, K0 =>
    sel (decide (xt8 < (nt0 : Int))) (
    sel (decide (xt8 < xt2)) (
    optB At0 fun a3 =>
    req (decide (0 ≤ xt8 ∧ xt8 < (nt0 : Int))) <|
    ldI w (a3.add (xt8.toNat * 1)) .u8 fun x4 =>
    alW w (.cells #[.int .u8 x4] 5) fun B5 w6 =>
    Runs Try.prog (Builtin.append_ #[22, 22] 22 #[.slice At7 nt7 ct7, .slice (some (⟨B5, 0, Option.none⟩ : Addr)) 1 1]) w6 fun v8 w7 => ∃ (A9 : Option Addr) (n9 : Nat) (c9 : Nat), v8 = (.slice A9 n9 c9) ∧ (
    l1 k At0 nt0 ct0 xt2 A9 n9 c9 (IntKind.i64.wrap (xt8 + (1 : Int))) w7 K0)) (
    K0 At7 nt7 ct7 w)) (
    K0 At7 nt7 ct7 w)
def j0 (At0 : Option Addr) (nt0 : Nat) (ct0 : Nat) (xt1 : Int) (xt2 : Int) (At7 : Option Addr) (nt7 : Nat) (ct7 : Nat) (w : World) (Kr : (Option Addr) → Nat → Nat → World → Prop) : Prop :=
  ∃ k12 : Nat, l1 k12 At0 nt0 ct0 xt2 At7 nt7 ct7 xt1 w (fun (A10 : Option Addr) (n10 : Nat) (c10 : Nat) (w11 : World) => ∀ _ : Fr,
  Kr A10 n10 c10 w11)
def wp (Aa0 : Option Addr) (na0 : Nat) (ca0 : Nat) (xa1 : Int) (xa2 : Int) (w : World) (Q : Ending → World → Prop) : Prop :=
  alW w (.cells #[] 5) fun B1 w2 =>
  sel (decide (xa1 < (0 : Int))) (
  j0 Aa0 na0 ca0 (0 : Int) xa2 (some (⟨B1, 0, Option.none⟩ : Addr)) 0 0 w2 (fun (A13 : Option Addr) (n13 : Nat) (c13 : Nat) (w14 : World) => ∀ _ : Fr,
  Q (.returned (.slice A13 n13 c13)) w14)) (
  j0 Aa0 na0 ca0 xa1 xa2 (some (⟨B1, 0, Option.none⟩ : Addr)) 0 0 w2 (fun (A15 : Option Addr) (n15 : Nat) (c15 : Nat) (w16 : World) => ∀ _ : Fr,
  Q (.returned (.slice A15 n15 c15)) w16))
def D : Nat → Option DH := dtab []
def l1LO : LO := ⟨[], [], [(0, [7])], []⟩
def l1Tk (k : Nat) : Spec := fun Q σ w =>
  gSlice (σ 0) fun At0 nt0 ct0 =>
  gInt .i64 (σ 2) fun xt2 =>
  gSlice (σ 7) fun At7 nt7 ct7 =>
  gInt .i64 (σ 8) fun xt8 =>
  l1 k At0 nt0 ct0 xt2 At7 nt7 ct7 xt8 w (fun (Aq7 : Option Addr) (nq7 : Nat) (cq7 : Nat) (w : World) => ∀ d : Fr, Q (.exit 0) (ov d [(7, .slice Aq7 nq7 cq7)]) w)
def l1T : Spec := fun Q σ w => ∃ k, l1Tk k Q σ w
def l1tb : List (List Nat × Spec) := []
noncomputable def l1b : Code := (subC [0, 0, 1, 0, 1, 1, 1] body).getD .skip
theorem l1_eq (k : Nat) (At0 : Option Addr) (nt0 : Nat) (ct0 : Nat) (xt2 : Int) (At7 : Option Addr) (nt7 : Nat) (ct7 : Nat) (xt8 : Int) (Q : PQ) (σ : Fr) (w : World) :
    l1 (k + 1) At0 nt0 ct0 xt2 At7 nt7 ct7 xt8 w (fun (Aq7 : Option Addr) (nq7 : Nat) (cq7 : Nat) (w : World) => ∀ d : Fr, Q (.exit 0) (ov d [(7, .slice Aq7 nq7 cq7)]) w) = codeW Try.prog hT 32 D (tab l1tb) [0, 0, 1, 0, 1, 1, 1] l1b (thenQ (l1Tk k Q) (widen l1LO Q)) (ov σ [(0, .slice At0 nt0 ct0), (2, .int .i64 xt2), (7, .slice At7 nt7 ct7), (8, .int .i64 xt8)]) w := by kernel_rfl
theorem l1_snd : ∀ c, subC [0, 1, 0, 1, 1, 1] body = some c → Snd Try.prog 32 c l1T := by
  refine loop_of (hT := hT) (D := D) (l := l1tb) (b := l1b) (lo := l1LO) (by kernel_rfl) (by
    intro x hx
    simp only [l1tb, List.not_mem_nil] at hx
    ) (by kernel_rfl) (by kernel_rfl) ?_ ?_
  · intro Q σ w h
    unfold l1Tk at h
    obtain ⟨At0, nt0, ct0, h0, hn⟩ := gSlice_elim h
    clear h
    have h := hn
    clear hn
    obtain ⟨xt2, h2, hn⟩ := gInt_elim h
    clear h
    have h := hn
    clear hn
    obtain ⟨At7, nt7, ct7, h7, hn⟩ := gSlice_elim h
    clear h
    have h := hn
    clear hn
    obtain ⟨xt8, h8, hn⟩ := gInt_elim h
    clear h
    have h := hn
    clear hn
    exact h
  · intro k Q σ w h
    unfold l1Tk at h
    obtain ⟨At0, nt0, ct0, h0, hn⟩ := gSlice_elim h
    clear h
    have h := hn
    clear hn
    obtain ⟨xt2, h2, hn⟩ := gInt_elim h
    clear h
    have h := hn
    clear hn
    obtain ⟨At7, nt7, ct7, h7, hn⟩ := gSlice_elim h
    clear h
    have h := hn
    clear hn
    obtain ⟨xt8, h8, hn⟩ := gInt_elim h
    clear h
    have h := hn
    clear hn
    rw [l1_eq (σ := σ)] at h
    have e : (ov σ [(0, .slice At0 nt0 ct0), (2, .int .i64 xt2), (7, .slice At7 nt7 ct7), (8, .int .i64 xt8)]) = σ := ov_self (by simp [h0, h2, h7, h8])
    rw [e] at h
    exact h
def j0LO : LO := ⟨[], [6], [], []⟩
def j0T : Spec := fun Q σ w =>
  gSlice (σ 0) fun At0 nt0 ct0 =>
  gInt .i64 (σ 1) fun xt1 =>
  gInt .i64 (σ 2) fun xt2 =>
  gSlice (σ 7) fun At7 nt7 ct7 =>
  j0 At0 nt0 ct0 xt1 xt2 At7 nt7 ct7 w (fun (Aq6 : Option Addr) (nq6 : Nat) (cq6 : Nat) (w : World) => ∀ d : Fr, Q .ret (ov d [(6, .slice Aq6 nq6 cq6)]) w)
def j0tb : List (List Nat × Spec) := [([0, 1, 0, 1, 1, 1], l1T)]
noncomputable def j0b : Code := (subC [1, 1, 1] body).getD .skip
theorem j0_eq (At0 : Option Addr) (nt0 : Nat) (ct0 : Nat) (xt1 : Int) (xt2 : Int) (At7 : Option Addr) (nt7 : Nat) (ct7 : Nat) (Q : PQ) (σ : Fr) (w : World) :
    j0 At0 nt0 ct0 xt1 xt2 At7 nt7 ct7 w (fun (Aq6 : Option Addr) (nq6 : Nat) (cq6 : Nat) (w : World) => ∀ d : Fr, Q .ret (ov d [(6, .slice Aq6 nq6 cq6)]) w) = codeW Try.prog hT 32 D (tab j0tb) [1, 1, 1] j0b (widen j0LO Q) (ov σ [(0, .slice At0 nt0 ct0), (1, .int .i64 xt1), (2, .int .i64 xt2), (7, .slice At7 nt7 ct7)]) w := by kernel_rfl
theorem j0_snd : ∀ c, subC [1, 1, 1] body = some c → Snd Try.prog 32 c j0T := by
  refine cut_of (hT := hT) (D := D) (l := j0tb) (b := j0b) (lo := j0LO) (by kernel_rfl) (by
    intro x hx
    simp only [j0tb, List.mem_cons, List.not_mem_nil, or_false] at hx
    subst hx
    exact l1_snd) (by kernel_rfl) (by kernel_rfl) ?_
  intro Q σ w h
  unfold j0T at h
  obtain ⟨At0, nt0, ct0, h0, hn⟩ := gSlice_elim h
  clear h
  have h := hn
  clear hn
  obtain ⟨xt1, h1, hn⟩ := gInt_elim h
  clear h
  have h := hn
  clear hn
  obtain ⟨xt2, h2, hn⟩ := gInt_elim h
  clear h
  have h := hn
  clear hn
  obtain ⟨At7, nt7, ct7, h7, hn⟩ := gSlice_elim h
  clear h
  have h := hn
  clear hn
  rw [j0_eq (σ := σ)] at h
  have e : (ov σ [(0, .slice At0 nt0 ct0), (1, .int .i64 xt1), (2, .int .i64 xt2), (7, .slice At7 nt7 ct7)]) = σ := ov_self (by simp [h0, h1, h2, h7])
  rw [e] at h
  exact h
def tb : List (List Nat × Spec) := [([0, 1, 0, 1, 1, 1], l1T), ([1, 1, 1], j0T)]
theorem wp_eq (Aa0 : Option Addr) (na0 : Nat) (ca0 : Nat) (xa1 : Int) (xa2 : Int) (w : World) (Q : Ending → World → Prop) :
    wp Aa0 na0 ca0 xa1 xa2 w Q = codeW Try.prog hT 32 D (tab tb) [] body (topQ Try.prog hT 32 [.tmp 6] Q) (argsF [.slice Aa0 na0 ca0, .int .i64 xa1, .int .i64 xa2]) w := by kernel_rfl
theorem ok (Aa0 : Option Addr) (na0 : Nat) (ca0 : Nat) (xa1 : Int) (xa2 : Int) (w : World) (Q : Ending → World → Prop) (h : wp Aa0 na0 ca0 xa1 xa2 w Q) : Calls Try.prog 36 #[.slice Aa0 na0 ca0, .int .i64 xa1, .int .i64 xa2] w Q := by
  rw [wp_eq] at h
  exact calls_of_codeW (c := body) (rs := [.tmp 6]) Try.func36 (by kernel_rfl) (by kernel_rfl) (by kernel_rfl) (by kernel_rfl) (by kernel_rfl) (tab_snd (by
    intro x hx
    simp only [tb, List.mem_cons, List.not_mem_nil, or_false] at hx
    rcases hx with rfl | rfl
    · exact l1_snd
    · exact j0_snd)) (by kernel_rfl) h
end f_ref01_Piece
namespace f_ref01_Same
/-! skein/skeinref01.Same: function 37 -/
noncomputable def body : Code := (Try.f37.body).getD .skip
def l0 : Nat → Option Addr → Nat → Nat → Option Addr → Nat → Nat → Int → World → (World → Prop) → (Bool → World → Prop) → Prop
  | 0, _, _, _, _, _, _, _, _, _, _ => False
  | k + 1, At0, nt0, ct0, At1, nt1, ct1, xt5, w, K0, Kr =>
    sel (decide (xt5 < (nt0 : Int))) (
    drW w fun w1 =>
    optB At0 fun a3 =>
    req (decide (0 ≤ xt5 ∧ xt5 < (nt0 : Int))) <|
    ldI w1 (a3.add (xt5.toNat * 1)) .u8 fun x4 =>
    optB At1 fun a5 =>
    req (decide (0 ≤ xt5 ∧ xt5 < (nt1 : Int))) <|
    ldI w1 (a5.add (xt5.toNat * 1)) .u8 fun x6 =>
    sel (x4 != x6) (
    Kr false w1) (
    l0 k At0 nt0 ct0 At1 nt1 ct1 (IntKind.i64.wrap (xt5 + (1 : Int))) w1 K0 Kr)) (
    K0  w)
def wp (Aa0 : Option Addr) (na0 : Nat) (ca0 : Nat) (Aa1 : Option Addr) (na1 : Nat) (ca1 : Nat) (w : World) (Q : Ending → World → Prop) : Prop :=
  sel ((na0 : Int) != (na1 : Int)) (
  Q (.returned (.bool false)) w) (
  ∃ k10 : Nat, l0 k10 Aa0 na0 ca0 Aa1 na1 ca1 (0 : Int) w (fun (w7 : World) => ∀ _ : Fr,
  Q (.returned (.bool true)) w7) (fun (b8 : Bool) (w9 : World) => ∀ _ : Fr,
  Q (.returned (.bool b8)) w9))
def D : Nat → Option DH := dtab [(6, .simple [.fst 0, .fst 1, .fst 2, .fst 3, .fst 4, .fst 5, .fst 6, .fst 7] [.fst 8])]
def l0LO : LO := ⟨[], [4], [(0, [])], []⟩
def l0Tk (k : Nat) : Spec := fun Q σ w =>
  gSlice (σ 0) fun At0 nt0 ct0 =>
  gSlice (σ 1) fun At1 nt1 ct1 =>
  gInt .i64 (σ 5) fun xt5 =>
  l0 k At0 nt0 ct0 At1 nt1 ct1 xt5 w (fun (w : World) => ∀ d : Fr, Q (.exit 0) (ov d []) w) (fun (bq4 : Bool) (w : World) => ∀ d : Fr, Q .ret (ov d [(4, .bool bq4)]) w)
def l0T : Spec := fun Q σ w => ∃ k, l0Tk k Q σ w
def l0tb : List (List Nat × Spec) := []
noncomputable def l0b : Code := (subC [0, 0, 1, 0, 1, 1] body).getD .skip
theorem l0_eq (k : Nat) (At0 : Option Addr) (nt0 : Nat) (ct0 : Nat) (At1 : Option Addr) (nt1 : Nat) (ct1 : Nat) (xt5 : Int) (Q : PQ) (σ : Fr) (w : World) :
    l0 (k + 1) At0 nt0 ct0 At1 nt1 ct1 xt5 w (fun (w : World) => ∀ d : Fr, Q (.exit 0) (ov d []) w) (fun (bq4 : Bool) (w : World) => ∀ d : Fr, Q .ret (ov d [(4, .bool bq4)]) w) = codeW Try.prog hT 26 D (tab l0tb) [0, 0, 1, 0, 1, 1] l0b (thenQ (l0Tk k Q) (widen l0LO Q)) (ov σ [(0, .slice At0 nt0 ct0), (1, .slice At1 nt1 ct1), (5, .int .i64 xt5)]) w := by kernel_rfl
theorem l0_snd : ∀ c, subC [0, 1, 0, 1, 1] body = some c → Snd Try.prog 26 c l0T := by
  refine loop_of (hT := hT) (D := D) (l := l0tb) (b := l0b) (lo := l0LO) (by kernel_rfl) (by
    intro x hx
    simp only [l0tb, List.not_mem_nil] at hx
    ) (by kernel_rfl) (by kernel_rfl) ?_ ?_
  · intro Q σ w h
    unfold l0Tk at h
    obtain ⟨At0, nt0, ct0, h0, hn⟩ := gSlice_elim h
    clear h
    have h := hn
    clear hn
    obtain ⟨At1, nt1, ct1, h1, hn⟩ := gSlice_elim h
    clear h
    have h := hn
    clear hn
    obtain ⟨xt5, h5, hn⟩ := gInt_elim h
    clear h
    have h := hn
    clear hn
    exact h
  · intro k Q σ w h
    unfold l0Tk at h
    obtain ⟨At0, nt0, ct0, h0, hn⟩ := gSlice_elim h
    clear h
    have h := hn
    clear hn
    obtain ⟨At1, nt1, ct1, h1, hn⟩ := gSlice_elim h
    clear h
    have h := hn
    clear hn
    obtain ⟨xt5, h5, hn⟩ := gInt_elim h
    clear h
    have h := hn
    clear hn
    rw [l0_eq (σ := σ)] at h
    have e : (ov σ [(0, .slice At0 nt0 ct0), (1, .slice At1 nt1 ct1), (5, .int .i64 xt5)]) = σ := ov_self (by simp [h0, h1, h5])
    rw [e] at h
    exact h
def tb : List (List Nat × Spec) := [([0, 1, 0, 1, 1], l0T)]
theorem wp_eq (Aa0 : Option Addr) (na0 : Nat) (ca0 : Nat) (Aa1 : Option Addr) (na1 : Nat) (ca1 : Nat) (w : World) (Q : Ending → World → Prop) :
    wp Aa0 na0 ca0 Aa1 na1 ca1 w Q = codeW Try.prog hT 26 D (tab tb) [] body (topQ Try.prog hT 26 [.tmp 4] Q) (argsF [.slice Aa0 na0 ca0, .slice Aa1 na1 ca1]) w := by kernel_rfl
theorem ok (Aa0 : Option Addr) (na0 : Nat) (ca0 : Nat) (Aa1 : Option Addr) (na1 : Nat) (ca1 : Nat) (w : World) (Q : Ending → World → Prop) (h : wp Aa0 na0 ca0 Aa1 na1 ca1 w Q) : Calls Try.prog 37 #[.slice Aa0 na0 ca0, .slice Aa1 na1 ca1] w Q := by
  rw [wp_eq] at h
  exact calls_of_codeW (c := body) (rs := [.tmp 4]) Try.func37 (by kernel_rfl) (by kernel_rfl) (by kernel_rfl) (by kernel_rfl) (by kernel_rfl) (tab_snd (by
    intro x hx
    simp only [tb, List.mem_cons, List.not_mem_nil, or_false] at hx
    subst hx
    exact l0_snd)) (by kernel_rfl) h
end f_ref01_Same
namespace f_ref01_Copy
/-! skein/skeinref01.Copy: function 38 -/
noncomputable def body : Code := (Try.f38.body).getD .skip
def l0 : Nat → Option Addr → Nat → Nat → Option Addr → Nat → Nat → Int → World → ((Option Addr) → Nat → Nat → World → Prop) → Prop
  | 0, _, _, _, _, _, _, _, _, _ => False
  | k + 1, At0, nt0, ct0, At3, nt3, ct3, xt4, w, K0 =>
    sel (decide (xt4 < (nt0 : Int))) (
    optB At0 fun a3 =>
    req (decide (0 ≤ xt4 ∧ xt4 < (nt0 : Int))) <|
    ldI w (a3.add (xt4.toNat * 1)) .u8 fun x4 =>
    alW w (.cells #[.int .u8 x4] 5) fun B5 w6 =>
    Runs Try.prog (Builtin.append_ #[22, 22] 22 #[.slice At3 nt3 ct3, .slice (some (⟨B5, 0, Option.none⟩ : Addr)) 1 1]) w6 fun v8 w7 => ∃ (A9 : Option Addr) (n9 : Nat) (c9 : Nat), v8 = (.slice A9 n9 c9) ∧ (
    l0 k At0 nt0 ct0 A9 n9 c9 (IntKind.i64.wrap (xt4 + (1 : Int))) w7 K0)) (
    K0 At3 nt3 ct3 w)
def wp (Aa0 : Option Addr) (na0 : Nat) (ca0 : Nat) (w : World) (Q : Ending → World → Prop) : Prop :=
  alW w (.cells #[] 5) fun B1 w2 =>
  ∃ k12 : Nat, l0 k12 Aa0 na0 ca0 (some (⟨B1, 0, Option.none⟩ : Addr)) 0 0 (0 : Int) w2 (fun (A10 : Option Addr) (n10 : Nat) (c10 : Nat) (w11 : World) => ∀ _ : Fr,
  Q (.returned (.slice A10 n10 c10)) w11)
def D : Nat → Option DH := dtab []
def l0LO : LO := ⟨[], [], [(0, [3])], []⟩
def l0Tk (k : Nat) : Spec := fun Q σ w =>
  gSlice (σ 0) fun At0 nt0 ct0 =>
  gSlice (σ 3) fun At3 nt3 ct3 =>
  gInt .i64 (σ 4) fun xt4 =>
  l0 k At0 nt0 ct0 At3 nt3 ct3 xt4 w (fun (Aq3 : Option Addr) (nq3 : Nat) (cq3 : Nat) (w : World) => ∀ d : Fr, Q (.exit 0) (ov d [(3, .slice Aq3 nq3 cq3)]) w)
def l0T : Spec := fun Q σ w => ∃ k, l0Tk k Q σ w
def l0tb : List (List Nat × Spec) := []
noncomputable def l0b : Code := (subC [0, 0, 1, 0, 1, 1] body).getD .skip
theorem l0_eq (k : Nat) (At0 : Option Addr) (nt0 : Nat) (ct0 : Nat) (At3 : Option Addr) (nt3 : Nat) (ct3 : Nat) (xt4 : Int) (Q : PQ) (σ : Fr) (w : World) :
    l0 (k + 1) At0 nt0 ct0 At3 nt3 ct3 xt4 w (fun (Aq3 : Option Addr) (nq3 : Nat) (cq3 : Nat) (w : World) => ∀ d : Fr, Q (.exit 0) (ov d [(3, .slice Aq3 nq3 cq3)]) w) = codeW Try.prog hT 20 D (tab l0tb) [0, 0, 1, 0, 1, 1] l0b (thenQ (l0Tk k Q) (widen l0LO Q)) (ov σ [(0, .slice At0 nt0 ct0), (3, .slice At3 nt3 ct3), (4, .int .i64 xt4)]) w := by kernel_rfl
theorem l0_snd : ∀ c, subC [0, 1, 0, 1, 1] body = some c → Snd Try.prog 20 c l0T := by
  refine loop_of (hT := hT) (D := D) (l := l0tb) (b := l0b) (lo := l0LO) (by kernel_rfl) (by
    intro x hx
    simp only [l0tb, List.not_mem_nil] at hx
    ) (by kernel_rfl) (by kernel_rfl) ?_ ?_
  · intro Q σ w h
    unfold l0Tk at h
    obtain ⟨At0, nt0, ct0, h0, hn⟩ := gSlice_elim h
    clear h
    have h := hn
    clear hn
    obtain ⟨At3, nt3, ct3, h3, hn⟩ := gSlice_elim h
    clear h
    have h := hn
    clear hn
    obtain ⟨xt4, h4, hn⟩ := gInt_elim h
    clear h
    have h := hn
    clear hn
    exact h
  · intro k Q σ w h
    unfold l0Tk at h
    obtain ⟨At0, nt0, ct0, h0, hn⟩ := gSlice_elim h
    clear h
    have h := hn
    clear hn
    obtain ⟨At3, nt3, ct3, h3, hn⟩ := gSlice_elim h
    clear h
    have h := hn
    clear hn
    obtain ⟨xt4, h4, hn⟩ := gInt_elim h
    clear h
    have h := hn
    clear hn
    rw [l0_eq (σ := σ)] at h
    have e : (ov σ [(0, .slice At0 nt0 ct0), (3, .slice At3 nt3 ct3), (4, .int .i64 xt4)]) = σ := ov_self (by simp [h0, h3, h4])
    rw [e] at h
    exact h
def tb : List (List Nat × Spec) := [([0, 1, 0, 1, 1], l0T)]
theorem wp_eq (Aa0 : Option Addr) (na0 : Nat) (ca0 : Nat) (w : World) (Q : Ending → World → Prop) :
    wp Aa0 na0 ca0 w Q = codeW Try.prog hT 20 D (tab tb) [] body (topQ Try.prog hT 20 [.tmp 2] Q) (argsF [.slice Aa0 na0 ca0]) w := by kernel_rfl
theorem ok (Aa0 : Option Addr) (na0 : Nat) (ca0 : Nat) (w : World) (Q : Ending → World → Prop) (h : wp Aa0 na0 ca0 w Q) : Calls Try.prog 38 #[.slice Aa0 na0 ca0] w Q := by
  rw [wp_eq] at h
  exact calls_of_codeW (c := body) (rs := [.tmp 2]) Try.func38 (by kernel_rfl) (by kernel_rfl) (by kernel_rfl) (by kernel_rfl) (by kernel_rfl) (tab_snd (by
    intro x hx
    simp only [tb, List.mem_cons, List.not_mem_nil, or_false] at hx
    subst hx
    exact l0_snd)) (by kernel_rfl) h
end f_ref01_Copy
namespace f_num_Big
/-! skein/num.Big: function 39 -/
noncomputable def body : Code := (Try.f39.body).getD .skip
def l0 : Nat → Addr → Int → Int → World → (World → Prop) → Prop
  | 0, _, _, _, _, _ => False
  | k + 1, at2, xt3, xt8, w, K0 =>
    sel (decide (xt8 < (8 : Int))) (
    req (!decide ((IntKind.u64.wrap (IntKind.i64.wrap ((56 : Int) - (IntKind.i64.wrap ((8 : Int) * xt8))))) < 0)) <|
    req (decide (0 ≤ xt8 ∧ xt8 < ((8 : Nat) : Int))) <|
    stW w (at2.add (xt8.toNat * 1)) (.int .u8 (IntKind.u8.wrap (xt3.fdiv (2 ^ (min (IntKind.u64.wrap (IntKind.i64.wrap ((56 : Int) - (IntKind.i64.wrap ((8 : Int) * xt8))))).toNat 64))))) fun w3 =>
    l0 k at2 xt3 (IntKind.i64.wrap (xt8 + (1 : Int))) w3 K0) (
    K0  w)
def wp (xa0 : Int) (w : World) (Q : Ending → World → Prop) : Prop :=
  alW w (.cells #[.int .u8 (0 : Int), .int .u8 (0 : Int), .int .u8 (0 : Int), .int .u8 (0 : Int), .int .u8 (0 : Int), .int .u8 (0 : Int), .int .u8 (0 : Int), .int .u8 (0 : Int)] 57) fun B1 w2 =>
  ∃ k29 : Nat, l0 k29 (⟨B1, 0, Option.none⟩ : Addr) (bxor .u64 (IntKind.u64.wrap xa0) (9223372036854775808 : Int)) (0 : Int) w2 (fun (w4 : World) => ∀ _ : Fr,
  ldI w4 (⟨B1, 0, Option.none⟩ : Addr) .u8 fun x5 =>
  ldI w4 ((⟨B1, 0, Option.none⟩ : Addr).add 1) .u8 fun x6 =>
  ldI w4 ((⟨B1, 0, Option.none⟩ : Addr).add 2) .u8 fun x7 =>
  ldI w4 ((⟨B1, 0, Option.none⟩ : Addr).add 3) .u8 fun x8 =>
  ldI w4 ((⟨B1, 0, Option.none⟩ : Addr).add 4) .u8 fun x9 =>
  ldI w4 ((⟨B1, 0, Option.none⟩ : Addr).add 5) .u8 fun x10 =>
  ldI w4 ((⟨B1, 0, Option.none⟩ : Addr).add 6) .u8 fun x11 =>
  ldI w4 ((⟨B1, 0, Option.none⟩ : Addr).add 7) .u8 fun x12 =>
  stW w4 (⟨B1, 0, Option.none⟩ : Addr) (.int .u8 x5) fun w13 =>
  stW w13 ((⟨B1, 0, Option.none⟩ : Addr).add 1) (.int .u8 x6) fun w14 =>
  stW w14 ((⟨B1, 0, Option.none⟩ : Addr).add 2) (.int .u8 x7) fun w15 =>
  stW w15 ((⟨B1, 0, Option.none⟩ : Addr).add 3) (.int .u8 x8) fun w16 =>
  stW w16 ((⟨B1, 0, Option.none⟩ : Addr).add 4) (.int .u8 x9) fun w17 =>
  stW w17 ((⟨B1, 0, Option.none⟩ : Addr).add 5) (.int .u8 x10) fun w18 =>
  stW w18 ((⟨B1, 0, Option.none⟩ : Addr).add 6) (.int .u8 x11) fun w19 =>
  stW w19 ((⟨B1, 0, Option.none⟩ : Addr).add 7) (.int .u8 x12) fun w20 =>
  ldI w20 (⟨B1, 0, Option.none⟩ : Addr) .u8 fun x21 =>
  ldI w20 ((⟨B1, 0, Option.none⟩ : Addr).add 1) .u8 fun x22 =>
  ldI w20 ((⟨B1, 0, Option.none⟩ : Addr).add 2) .u8 fun x23 =>
  ldI w20 ((⟨B1, 0, Option.none⟩ : Addr).add 3) .u8 fun x24 =>
  ldI w20 ((⟨B1, 0, Option.none⟩ : Addr).add 4) .u8 fun x25 =>
  ldI w20 ((⟨B1, 0, Option.none⟩ : Addr).add 5) .u8 fun x26 =>
  ldI w20 ((⟨B1, 0, Option.none⟩ : Addr).add 6) .u8 fun x27 =>
  ldI w20 ((⟨B1, 0, Option.none⟩ : Addr).add 7) .u8 fun x28 =>
  Q (.returned (.agg #[.int .u8 x21, .int .u8 x22, .int .u8 x23, .int .u8 x24, .int .u8 x25, .int .u8 x26, .int .u8 x27, .int .u8 x28])) w20)
def D : Nat → Option DH := dtab []
def l0LO : LO := ⟨[], [], [(0, [2])], []⟩
def l0Tk (k : Nat) : Spec := fun Q σ w =>
  gAd (σ 2) fun at2 =>
  gInt .u64 (σ 3) fun xt3 =>
  gInt .i64 (σ 8) fun xt8 =>
  l0 k at2 xt3 xt8 w (fun (w : World) => ∀ d : Fr, Q (.exit 0) (ov d [(2, .pointer (some at2))]) w)
def l0T : Spec := fun Q σ w => ∃ k, l0Tk k Q σ w
def l0tb : List (List Nat × Spec) := []
noncomputable def l0b : Code := (subC [0, 0, 1, 0, 1, 1] body).getD .skip
theorem l0_eq (k : Nat) (at2 : Addr) (xt3 : Int) (xt8 : Int) (Q : PQ) (σ : Fr) (w : World) :
    l0 (k + 1) at2 xt3 xt8 w (fun (w : World) => ∀ d : Fr, Q (.exit 0) (ov d [(2, .pointer (some at2))]) w) = codeW Try.prog hT 22 D (tab l0tb) [0, 0, 1, 0, 1, 1] l0b (thenQ (l0Tk k Q) (widen l0LO Q)) (ov σ [(2, .pointer (some at2)), (3, .int .u64 xt3), (8, .int .i64 xt8)]) w := by kernel_rfl
theorem l0_snd : ∀ c, subC [0, 1, 0, 1, 1] body = some c → Snd Try.prog 22 c l0T := by
  refine loop_of (hT := hT) (D := D) (l := l0tb) (b := l0b) (lo := l0LO) (by kernel_rfl) (by
    intro x hx
    simp only [l0tb, List.not_mem_nil] at hx
    ) (by kernel_rfl) (by kernel_rfl) ?_ ?_
  · intro Q σ w h
    unfold l0Tk at h
    obtain ⟨at2, h2, hn⟩ := gAd_elim h
    clear h
    have h := hn
    clear hn
    obtain ⟨xt3, h3, hn⟩ := gInt_elim h
    clear h
    have h := hn
    clear hn
    obtain ⟨xt8, h8, hn⟩ := gInt_elim h
    clear h
    have h := hn
    clear hn
    exact h
  · intro k Q σ w h
    unfold l0Tk at h
    obtain ⟨at2, h2, hn⟩ := gAd_elim h
    clear h
    have h := hn
    clear hn
    obtain ⟨xt3, h3, hn⟩ := gInt_elim h
    clear h
    have h := hn
    clear hn
    obtain ⟨xt8, h8, hn⟩ := gInt_elim h
    clear h
    have h := hn
    clear hn
    rw [l0_eq (σ := σ)] at h
    have e : (ov σ [(2, .pointer (some at2)), (3, .int .u64 xt3), (8, .int .i64 xt8)]) = σ := ov_self (by simp [h2, h3, h8])
    rw [e] at h
    exact h
def tb : List (List Nat × Spec) := [([0, 1, 0, 1, 1], l0T)]
theorem wp_eq (xa0 : Int) (w : World) (Q : Ending → World → Prop) :
    wp xa0 w Q = codeW Try.prog hT 22 D (tab tb) [] body (topQ Try.prog hT 22 [.cell 2 57] Q) (argsF [.int .i64 xa0]) w := by kernel_rfl
theorem ok (xa0 : Int) (w : World) (Q : Ending → World → Prop) (h : wp xa0 w Q) : Calls Try.prog 39 #[.int .i64 xa0] w Q := by
  rw [wp_eq] at h
  exact calls_of_codeW (c := body) (rs := [.cell 2 57]) Try.func39 (by kernel_rfl) (by kernel_rfl) (by kernel_rfl) (by kernel_rfl) (by kernel_rfl) (tab_snd (by
    intro x hx
    simp only [tb, List.mem_cons, List.not_mem_nil, or_false] at hx
    subst hx
    exact l0_snd)) (by kernel_rfl) h
end f_num_Big
namespace f_ref01_Big
/-! skein/skeinref01.Big: function 40 -/
noncomputable def body : Code := (Try.f40.body).getD .skip
def l0 : Nat → Int → Option Addr → Nat → Nat → Int → World → (World → Prop) → Prop
  | 0, _, _, _, _, _, _, _ => False
  | k + 1, xt3, At4, nt4, ct4, xt5, w, K0 =>
    sel (decide (xt5 ≥ (0 : Int))) (
    optB At4 fun a3 =>
    req (decide (0 ≤ xt5 ∧ xt5 < (nt4 : Int))) <|
    stW w (a3.add (xt5.toNat * 1)) (.int .u8 (IntKind.u8.wrap (xt3.tmod (256 : Int)))) fun w4 =>
    l0 k (IntKind.u64.wrap (xt3.tdiv (256 : Int))) At4 nt4 ct4 (IntKind.i64.wrap (xt5 - (1 : Int))) w4 K0) (
    K0  w)
def wp (xa0 : Int) (w : World) (Q : Ending → World → Prop) : Prop :=
  alW w (.cells #[.int .u8 (0 : Int), .int .u8 (0 : Int), .int .u8 (0 : Int), .int .u8 (0 : Int), .int .u8 (0 : Int), .int .u8 (0 : Int), .int .u8 (0 : Int), .int .u8 (0 : Int)] 5) fun B1 w2 =>
  ∃ k6 : Nat, l0 k6 (IntKind.u64.wrap ((IntKind.u64.wrap xa0) + (9223372036854775808 : Int))) (some (⟨B1, 0, Option.none⟩ : Addr)) 8 8 (7 : Int) w2 (fun (w5 : World) => ∀ _ : Fr,
  Q (.returned (.slice (some (⟨B1, 0, Option.none⟩ : Addr)) 8 8)) w5)
def D : Nat → Option DH := dtab []
def l0LO : LO := ⟨[], [], [(0, [4])], []⟩
def l0Tk (k : Nat) : Spec := fun Q σ w =>
  gInt .u64 (σ 3) fun xt3 =>
  gSlice (σ 4) fun At4 nt4 ct4 =>
  gInt .i64 (σ 5) fun xt5 =>
  l0 k xt3 At4 nt4 ct4 xt5 w (fun (w : World) => ∀ d : Fr, Q (.exit 0) (ov d [(4, .slice At4 nt4 ct4)]) w)
def l0T : Spec := fun Q σ w => ∃ k, l0Tk k Q σ w
def l0tb : List (List Nat × Spec) := []
noncomputable def l0b : Code := (subC [0, 0, 1, 0, 1, 1, 1] body).getD .skip
theorem l0_eq (k : Nat) (xt3 : Int) (At4 : Option Addr) (nt4 : Nat) (ct4 : Nat) (xt5 : Int) (Q : PQ) (σ : Fr) (w : World) :
    l0 (k + 1) xt3 At4 nt4 ct4 xt5 w (fun (w : World) => ∀ d : Fr, Q (.exit 0) (ov d [(4, .slice At4 nt4 ct4)]) w) = codeW Try.prog hT 23 D (tab l0tb) [0, 0, 1, 0, 1, 1, 1] l0b (thenQ (l0Tk k Q) (widen l0LO Q)) (ov σ [(3, .int .u64 xt3), (4, .slice At4 nt4 ct4), (5, .int .i64 xt5)]) w := by kernel_rfl
theorem l0_snd : ∀ c, subC [0, 1, 0, 1, 1, 1] body = some c → Snd Try.prog 23 c l0T := by
  refine loop_of (hT := hT) (D := D) (l := l0tb) (b := l0b) (lo := l0LO) (by kernel_rfl) (by
    intro x hx
    simp only [l0tb, List.not_mem_nil] at hx
    ) (by kernel_rfl) (by kernel_rfl) ?_ ?_
  · intro Q σ w h
    unfold l0Tk at h
    obtain ⟨xt3, h3, hn⟩ := gInt_elim h
    clear h
    have h := hn
    clear hn
    obtain ⟨At4, nt4, ct4, h4, hn⟩ := gSlice_elim h
    clear h
    have h := hn
    clear hn
    obtain ⟨xt5, h5, hn⟩ := gInt_elim h
    clear h
    have h := hn
    clear hn
    exact h
  · intro k Q σ w h
    unfold l0Tk at h
    obtain ⟨xt3, h3, hn⟩ := gInt_elim h
    clear h
    have h := hn
    clear hn
    obtain ⟨At4, nt4, ct4, h4, hn⟩ := gSlice_elim h
    clear h
    have h := hn
    clear hn
    obtain ⟨xt5, h5, hn⟩ := gInt_elim h
    clear h
    have h := hn
    clear hn
    rw [l0_eq (σ := σ)] at h
    have e : (ov σ [(3, .int .u64 xt3), (4, .slice At4 nt4 ct4), (5, .int .i64 xt5)]) = σ := ov_self (by simp [h3, h4, h5])
    rw [e] at h
    exact h
def tb : List (List Nat × Spec) := [([0, 1, 0, 1, 1, 1], l0T)]
theorem wp_eq (xa0 : Int) (w : World) (Q : Ending → World → Prop) :
    wp xa0 w Q = codeW Try.prog hT 23 D (tab tb) [] body (topQ Try.prog hT 23 [.tmp 2] Q) (argsF [.int .i64 xa0]) w := by kernel_rfl
theorem ok (xa0 : Int) (w : World) (Q : Ending → World → Prop) (h : wp xa0 w Q) : Calls Try.prog 40 #[.int .i64 xa0] w Q := by
  rw [wp_eq] at h
  exact calls_of_codeW (c := body) (rs := [.tmp 2]) Try.func40 (by kernel_rfl) (by kernel_rfl) (by kernel_rfl) (by kernel_rfl) (by kernel_rfl) (tab_snd (by
    intro x hx
    simp only [tb, List.mem_cons, List.not_mem_nil, or_false] at hx
    subst hx
    exact l0_snd)) (by kernel_rfl) h
end f_ref01_Big
namespace f_num_UnBig
/-! skein/num.UnBig: function 41 -/
noncomputable def body : Code := (Try.f41.body).getD .skip
def l0 : Nat → Int → Int → Int → Int → Int → Int → Int → Int → Int → Int → World → (Int → World → Prop) → Prop
  | 0, _, _, _, _, _, _, _, _, _, _, _, _ => False
  | k + 1, xt3, xt6_0, xt6_1, xt6_2, xt6_3, xt6_4, xt6_5, xt6_6, xt6_7, xt7, w, K0 =>
    sel (decide (xt7 < (8 : Int))) (
    req (true && decide (0 ≤ xt7 ∧ xt7 < ((8 : Nat) : Int))) <|
    idxI (#[.int .u8 xt6_0, .int .u8 xt6_1, .int .u8 xt6_2, .int .u8 xt6_3, .int .u8 xt6_4, .int .u8 xt6_5, .int .u8 xt6_6, .int .u8 xt6_7] : Array Value) xt7.toNat .u8 fun x11 =>
    l0 k (bor .u64 (IntKind.u64.wrap (xt3 * 2 ^ 8)) (IntKind.u64.wrap x11)) xt6_0 xt6_1 xt6_2 xt6_3 xt6_4 xt6_5 xt6_6 xt6_7 (IntKind.i64.wrap (xt7 + (1 : Int))) w K0) (
    K0 xt3 w)
def wp (xa0_0 : Int) (xa0_1 : Int) (xa0_2 : Int) (xa0_3 : Int) (xa0_4 : Int) (xa0_5 : Int) (xa0_6 : Int) (xa0_7 : Int) (w : World) (Q : Ending → World → Prop) : Prop :=
  alW w (.cells #[.int .u8 xa0_0, .int .u8 xa0_1, .int .u8 xa0_2, .int .u8 xa0_3, .int .u8 xa0_4, .int .u8 xa0_5, .int .u8 xa0_6, .int .u8 xa0_7] 57) fun B1 w2 =>
  ldI w2 (⟨B1, 0, Option.none⟩ : Addr) .u8 fun x3 =>
  ldI w2 ((⟨B1, 0, Option.none⟩ : Addr).add 1) .u8 fun x4 =>
  ldI w2 ((⟨B1, 0, Option.none⟩ : Addr).add 2) .u8 fun x5 =>
  ldI w2 ((⟨B1, 0, Option.none⟩ : Addr).add 3) .u8 fun x6 =>
  ldI w2 ((⟨B1, 0, Option.none⟩ : Addr).add 4) .u8 fun x7 =>
  ldI w2 ((⟨B1, 0, Option.none⟩ : Addr).add 5) .u8 fun x8 =>
  ldI w2 ((⟨B1, 0, Option.none⟩ : Addr).add 6) .u8 fun x9 =>
  ldI w2 ((⟨B1, 0, Option.none⟩ : Addr).add 7) .u8 fun x10 =>
  ∃ k14 : Nat, l0 k14 (0 : Int) x3 x4 x5 x6 x7 x8 x9 x10 (0 : Int) w2 (fun (x12 : Int) (w13 : World) => ∀ _ : Fr,
  Q (.returned (.int .i64 (IntKind.i64.wrap (bxor .u64 x12 (9223372036854775808 : Int))))) w13)
def D : Nat → Option DH := dtab []
def l0LO : LO := ⟨[], [], [(0, [3])], []⟩
def l0Tk (k : Nat) : Spec := fun Q σ w =>
  gInt .u64 (σ 3) fun xt3 =>
  gAgg (σ 6) fun l15 =>
  gCons l15 fun h24 l16 =>
  gInt .u8 h24 fun xt6_0 =>
  gCons l16 fun h25 l17 =>
  gInt .u8 h25 fun xt6_1 =>
  gCons l17 fun h26 l18 =>
  gInt .u8 h26 fun xt6_2 =>
  gCons l18 fun h27 l19 =>
  gInt .u8 h27 fun xt6_3 =>
  gCons l19 fun h28 l20 =>
  gInt .u8 h28 fun xt6_4 =>
  gCons l20 fun h29 l21 =>
  gInt .u8 h29 fun xt6_5 =>
  gCons l21 fun h30 l22 =>
  gInt .u8 h30 fun xt6_6 =>
  gCons l22 fun h31 l23 =>
  gInt .u8 h31 fun xt6_7 =>
  gNil l23 <|
  gInt .i64 (σ 7) fun xt7 =>
  l0 k xt3 xt6_0 xt6_1 xt6_2 xt6_3 xt6_4 xt6_5 xt6_6 xt6_7 xt7 w (fun (xq3 : Int) (w : World) => ∀ d : Fr, Q (.exit 0) (ov d [(3, .int .u64 xq3)]) w)
def l0T : Spec := fun Q σ w => ∃ k, l0Tk k Q σ w
def l0tb : List (List Nat × Spec) := []
noncomputable def l0b : Code := (subC [0, 0, 1, 0, 1, 1] body).getD .skip
theorem l0_eq (k : Nat) (xt3 : Int) (xt6_0 : Int) (xt6_1 : Int) (xt6_2 : Int) (xt6_3 : Int) (xt6_4 : Int) (xt6_5 : Int) (xt6_6 : Int) (xt6_7 : Int) (xt7 : Int) (Q : PQ) (σ : Fr) (w : World) :
    l0 (k + 1) xt3 xt6_0 xt6_1 xt6_2 xt6_3 xt6_4 xt6_5 xt6_6 xt6_7 xt7 w (fun (xq3 : Int) (w : World) => ∀ d : Fr, Q (.exit 0) (ov d [(3, .int .u64 xq3)]) w) = codeW Try.prog hT 19 D (tab l0tb) [0, 0, 1, 0, 1, 1] l0b (thenQ (l0Tk k Q) (widen l0LO Q)) (ov σ [(3, .int .u64 xt3), (6, .agg #[.int .u8 xt6_0, .int .u8 xt6_1, .int .u8 xt6_2, .int .u8 xt6_3, .int .u8 xt6_4, .int .u8 xt6_5, .int .u8 xt6_6, .int .u8 xt6_7]), (7, .int .i64 xt7)]) w := by kernel_rfl
theorem l0_snd : ∀ c, subC [0, 1, 0, 1, 1] body = some c → Snd Try.prog 19 c l0T := by
  refine loop_of (hT := hT) (D := D) (l := l0tb) (b := l0b) (lo := l0LO) (by kernel_rfl) (by
    intro x hx
    simp only [l0tb, List.not_mem_nil] at hx
    ) (by kernel_rfl) (by kernel_rfl) ?_ ?_
  · intro Q σ w h
    unfold l0Tk at h
    obtain ⟨xt3, h3, hn⟩ := gInt_elim h
    clear h
    have h := hn
    clear hn
    obtain ⟨lh6, h6, hn⟩ := gAgg_elim h
    clear h
    have h := hn
    clear hn
    obtain ⟨hdh6_0, tlh6_0, eh6_0, hn⟩ := gCons_elim h
    clear h
    have h := hn
    clear hn
    subst eh6_0
    obtain ⟨xt6_0, fh6_0, hn⟩ := gInt_elim h
    clear h
    have h := hn
    clear hn
    subst fh6_0
    obtain ⟨hdh6_1, tlh6_1, eh6_1, hn⟩ := gCons_elim h
    clear h
    have h := hn
    clear hn
    subst eh6_1
    obtain ⟨xt6_1, fh6_1, hn⟩ := gInt_elim h
    clear h
    have h := hn
    clear hn
    subst fh6_1
    obtain ⟨hdh6_2, tlh6_2, eh6_2, hn⟩ := gCons_elim h
    clear h
    have h := hn
    clear hn
    subst eh6_2
    obtain ⟨xt6_2, fh6_2, hn⟩ := gInt_elim h
    clear h
    have h := hn
    clear hn
    subst fh6_2
    obtain ⟨hdh6_3, tlh6_3, eh6_3, hn⟩ := gCons_elim h
    clear h
    have h := hn
    clear hn
    subst eh6_3
    obtain ⟨xt6_3, fh6_3, hn⟩ := gInt_elim h
    clear h
    have h := hn
    clear hn
    subst fh6_3
    obtain ⟨hdh6_4, tlh6_4, eh6_4, hn⟩ := gCons_elim h
    clear h
    have h := hn
    clear hn
    subst eh6_4
    obtain ⟨xt6_4, fh6_4, hn⟩ := gInt_elim h
    clear h
    have h := hn
    clear hn
    subst fh6_4
    obtain ⟨hdh6_5, tlh6_5, eh6_5, hn⟩ := gCons_elim h
    clear h
    have h := hn
    clear hn
    subst eh6_5
    obtain ⟨xt6_5, fh6_5, hn⟩ := gInt_elim h
    clear h
    have h := hn
    clear hn
    subst fh6_5
    obtain ⟨hdh6_6, tlh6_6, eh6_6, hn⟩ := gCons_elim h
    clear h
    have h := hn
    clear hn
    subst eh6_6
    obtain ⟨xt6_6, fh6_6, hn⟩ := gInt_elim h
    clear h
    have h := hn
    clear hn
    subst fh6_6
    obtain ⟨hdh6_7, tlh6_7, eh6_7, hn⟩ := gCons_elim h
    clear h
    have h := hn
    clear hn
    subst eh6_7
    obtain ⟨xt6_7, fh6_7, hn⟩ := gInt_elim h
    clear h
    have h := hn
    clear hn
    subst fh6_7
    obtain ⟨eh6, hn⟩ := gNil_elim h
    clear h
    have h := hn
    clear hn
    subst eh6
    obtain ⟨xt7, h7, hn⟩ := gInt_elim h
    clear h
    have h := hn
    clear hn
    exact h
  · intro k Q σ w h
    unfold l0Tk at h
    obtain ⟨xt3, h3, hn⟩ := gInt_elim h
    clear h
    have h := hn
    clear hn
    obtain ⟨lh6, h6, hn⟩ := gAgg_elim h
    clear h
    have h := hn
    clear hn
    obtain ⟨hdh6_0, tlh6_0, eh6_0, hn⟩ := gCons_elim h
    clear h
    have h := hn
    clear hn
    subst eh6_0
    obtain ⟨xt6_0, fh6_0, hn⟩ := gInt_elim h
    clear h
    have h := hn
    clear hn
    subst fh6_0
    obtain ⟨hdh6_1, tlh6_1, eh6_1, hn⟩ := gCons_elim h
    clear h
    have h := hn
    clear hn
    subst eh6_1
    obtain ⟨xt6_1, fh6_1, hn⟩ := gInt_elim h
    clear h
    have h := hn
    clear hn
    subst fh6_1
    obtain ⟨hdh6_2, tlh6_2, eh6_2, hn⟩ := gCons_elim h
    clear h
    have h := hn
    clear hn
    subst eh6_2
    obtain ⟨xt6_2, fh6_2, hn⟩ := gInt_elim h
    clear h
    have h := hn
    clear hn
    subst fh6_2
    obtain ⟨hdh6_3, tlh6_3, eh6_3, hn⟩ := gCons_elim h
    clear h
    have h := hn
    clear hn
    subst eh6_3
    obtain ⟨xt6_3, fh6_3, hn⟩ := gInt_elim h
    clear h
    have h := hn
    clear hn
    subst fh6_3
    obtain ⟨hdh6_4, tlh6_4, eh6_4, hn⟩ := gCons_elim h
    clear h
    have h := hn
    clear hn
    subst eh6_4
    obtain ⟨xt6_4, fh6_4, hn⟩ := gInt_elim h
    clear h
    have h := hn
    clear hn
    subst fh6_4
    obtain ⟨hdh6_5, tlh6_5, eh6_5, hn⟩ := gCons_elim h
    clear h
    have h := hn
    clear hn
    subst eh6_5
    obtain ⟨xt6_5, fh6_5, hn⟩ := gInt_elim h
    clear h
    have h := hn
    clear hn
    subst fh6_5
    obtain ⟨hdh6_6, tlh6_6, eh6_6, hn⟩ := gCons_elim h
    clear h
    have h := hn
    clear hn
    subst eh6_6
    obtain ⟨xt6_6, fh6_6, hn⟩ := gInt_elim h
    clear h
    have h := hn
    clear hn
    subst fh6_6
    obtain ⟨hdh6_7, tlh6_7, eh6_7, hn⟩ := gCons_elim h
    clear h
    have h := hn
    clear hn
    subst eh6_7
    obtain ⟨xt6_7, fh6_7, hn⟩ := gInt_elim h
    clear h
    have h := hn
    clear hn
    subst fh6_7
    obtain ⟨eh6, hn⟩ := gNil_elim h
    clear h
    have h := hn
    clear hn
    subst eh6
    obtain ⟨xt7, h7, hn⟩ := gInt_elim h
    clear h
    have h := hn
    clear hn
    rw [l0_eq (σ := σ)] at h
    have e : (ov σ [(3, .int .u64 xt3), (6, .agg #[.int .u8 xt6_0, .int .u8 xt6_1, .int .u8 xt6_2, .int .u8 xt6_3, .int .u8 xt6_4, .int .u8 xt6_5, .int .u8 xt6_6, .int .u8 xt6_7]), (7, .int .i64 xt7)]) = σ := ov_self (by simp [h3, h6, h7])
    rw [e] at h
    exact h
def tb : List (List Nat × Spec) := [([0, 1, 0, 1, 1], l0T)]
theorem wp_eq (xa0_0 : Int) (xa0_1 : Int) (xa0_2 : Int) (xa0_3 : Int) (xa0_4 : Int) (xa0_5 : Int) (xa0_6 : Int) (xa0_7 : Int) (w : World) (Q : Ending → World → Prop) :
    wp xa0_0 xa0_1 xa0_2 xa0_3 xa0_4 xa0_5 xa0_6 xa0_7 w Q = codeW Try.prog hT 19 D (tab tb) [] body (topQ Try.prog hT 19 [.tmp 2] Q) (argsF [.agg #[.int .u8 xa0_0, .int .u8 xa0_1, .int .u8 xa0_2, .int .u8 xa0_3, .int .u8 xa0_4, .int .u8 xa0_5, .int .u8 xa0_6, .int .u8 xa0_7]]) w := by kernel_rfl
theorem ok (xa0_0 : Int) (xa0_1 : Int) (xa0_2 : Int) (xa0_3 : Int) (xa0_4 : Int) (xa0_5 : Int) (xa0_6 : Int) (xa0_7 : Int) (w : World) (Q : Ending → World → Prop) (h : wp xa0_0 xa0_1 xa0_2 xa0_3 xa0_4 xa0_5 xa0_6 xa0_7 w Q) : Calls Try.prog 41 #[.agg #[.int .u8 xa0_0, .int .u8 xa0_1, .int .u8 xa0_2, .int .u8 xa0_3, .int .u8 xa0_4, .int .u8 xa0_5, .int .u8 xa0_6, .int .u8 xa0_7]] w Q := by
  rw [wp_eq] at h
  exact calls_of_codeW (c := body) (rs := [.tmp 2]) Try.func41 (by kernel_rfl) (by kernel_rfl) (by kernel_rfl) (by kernel_rfl) (by kernel_rfl) (tab_snd (by
    intro x hx
    simp only [tb, List.mem_cons, List.not_mem_nil, or_false] at hx
    subst hx
    exact l0_snd)) (by kernel_rfl) h
end f_num_UnBig
namespace f_ref01_Order
/-! skein/skeinref01.Order: function 42 -/
noncomputable def body : Code := (Try.f42.body).getD .skip
def l0 : Nat → Option Addr → Nat → Nat → Option Addr → Nat → Nat → Int → World → (World → Prop) → (Int → World → Prop) → Prop
  | 0, _, _, _, _, _, _, _, _, _, _ => False
  | k + 1, At0, nt0, ct0, At1, nt1, ct1, xt5, w, K0, Kr =>
    sel (decide (xt5 < (nt0 : Int))) (
    sel (decide (xt5 < (nt1 : Int))) (
    drW w fun w1 =>
    optB At0 fun a3 =>
    req (decide (0 ≤ xt5 ∧ xt5 < (nt0 : Int))) <|
    ldI w1 (a3.add (xt5.toNat * 1)) .u8 fun x4 =>
    optB At1 fun a5 =>
    req (decide (0 ≤ xt5 ∧ xt5 < (nt1 : Int))) <|
    ldI w1 (a5.add (xt5.toNat * 1)) .u8 fun x6 =>
    sel (decide (x4 < x6)) (
    Kr (-1 : Int) w1) (
    drW w1 fun w7 =>
    optB At0 fun a9 =>
    req (decide (0 ≤ xt5 ∧ xt5 < (nt0 : Int))) <|
    ldI w7 (a9.add (xt5.toNat * 1)) .u8 fun x10 =>
    optB At1 fun a11 =>
    req (decide (0 ≤ xt5 ∧ xt5 < (nt1 : Int))) <|
    ldI w7 (a11.add (xt5.toNat * 1)) .u8 fun x12 =>
    sel (decide (x10 > x12)) (
    Kr (1 : Int) w7) (
    l0 k At0 nt0 ct0 At1 nt1 ct1 (IntKind.i64.wrap (xt5 + (1 : Int))) w7 K0 Kr))) (
    K0  w)) (
    K0  w)
def wp (Aa0 : Option Addr) (na0 : Nat) (ca0 : Nat) (Aa1 : Option Addr) (na1 : Nat) (ca1 : Nat) (w : World) (Q : Ending → World → Prop) : Prop :=
  ∃ k16 : Nat, l0 k16 Aa0 na0 ca0 Aa1 na1 ca1 (0 : Int) w (fun (w13 : World) => ∀ _ : Fr,
  sel (decide ((na0 : Int) < (na1 : Int))) (
  Q (.returned (.int .i64 (-1 : Int))) w13) (
  sel (decide ((na0 : Int) > (na1 : Int))) (
  Q (.returned (.int .i64 (1 : Int))) w13) (
  Q (.returned (.int .i64 (0 : Int))) w13))) (fun (x14 : Int) (w15 : World) => ∀ _ : Fr,
  Q (.returned (.int .i64 x14)) w15)
def D : Nat → Option DH := dtab [(4, .simple [.fst 0, .fst 1, .fst 2, .fst 3, .fst 4, .fst 5, .fst 6, .fst 7] [.fst 8]), (6, .simple [.fst 0, .fst 1, .fst 2, .fst 3, .fst 4, .fst 5, .fst 6, .fst 7] [.fst 8])]
def l0LO : LO := ⟨[], [4], [(0, [0, 1])], []⟩
def l0Tk (k : Nat) : Spec := fun Q σ w =>
  gSlice (σ 0) fun At0 nt0 ct0 =>
  gSlice (σ 1) fun At1 nt1 ct1 =>
  gInt .i64 (σ 5) fun xt5 =>
  l0 k At0 nt0 ct0 At1 nt1 ct1 xt5 w (fun (w : World) => ∀ d : Fr, Q (.exit 0) (ov d [(0, .slice At0 nt0 ct0), (1, .slice At1 nt1 ct1)]) w) (fun (xq4 : Int) (w : World) => ∀ d : Fr, Q .ret (ov d [(4, .int .i64 xq4)]) w)
def l0T : Spec := fun Q σ w => ∃ k, l0Tk k Q σ w
def l0tb : List (List Nat × Spec) := []
noncomputable def l0b : Code := (subC [0, 0, 1, 0, 1] body).getD .skip
theorem l0_eq (k : Nat) (At0 : Option Addr) (nt0 : Nat) (ct0 : Nat) (At1 : Option Addr) (nt1 : Nat) (ct1 : Nat) (xt5 : Int) (Q : PQ) (σ : Fr) (w : World) :
    l0 (k + 1) At0 nt0 ct0 At1 nt1 ct1 xt5 w (fun (w : World) => ∀ d : Fr, Q (.exit 0) (ov d [(0, .slice At0 nt0 ct0), (1, .slice At1 nt1 ct1)]) w) (fun (xq4 : Int) (w : World) => ∀ d : Fr, Q .ret (ov d [(4, .int .i64 xq4)]) w) = codeW Try.prog hT 46 D (tab l0tb) [0, 0, 1, 0, 1] l0b (thenQ (l0Tk k Q) (widen l0LO Q)) (ov σ [(0, .slice At0 nt0 ct0), (1, .slice At1 nt1 ct1), (5, .int .i64 xt5)]) w := by kernel_rfl
theorem l0_snd : ∀ c, subC [0, 1, 0, 1] body = some c → Snd Try.prog 46 c l0T := by
  refine loop_of (hT := hT) (D := D) (l := l0tb) (b := l0b) (lo := l0LO) (by kernel_rfl) (by
    intro x hx
    simp only [l0tb, List.not_mem_nil] at hx
    ) (by kernel_rfl) (by kernel_rfl) ?_ ?_
  · intro Q σ w h
    unfold l0Tk at h
    obtain ⟨At0, nt0, ct0, h0, hn⟩ := gSlice_elim h
    clear h
    have h := hn
    clear hn
    obtain ⟨At1, nt1, ct1, h1, hn⟩ := gSlice_elim h
    clear h
    have h := hn
    clear hn
    obtain ⟨xt5, h5, hn⟩ := gInt_elim h
    clear h
    have h := hn
    clear hn
    exact h
  · intro k Q σ w h
    unfold l0Tk at h
    obtain ⟨At0, nt0, ct0, h0, hn⟩ := gSlice_elim h
    clear h
    have h := hn
    clear hn
    obtain ⟨At1, nt1, ct1, h1, hn⟩ := gSlice_elim h
    clear h
    have h := hn
    clear hn
    obtain ⟨xt5, h5, hn⟩ := gInt_elim h
    clear h
    have h := hn
    clear hn
    rw [l0_eq (σ := σ)] at h
    have e : (ov σ [(0, .slice At0 nt0 ct0), (1, .slice At1 nt1 ct1), (5, .int .i64 xt5)]) = σ := ov_self (by simp [h0, h1, h5])
    rw [e] at h
    exact h
def tb : List (List Nat × Spec) := [([0, 1, 0, 1], l0T)]
theorem wp_eq (Aa0 : Option Addr) (na0 : Nat) (ca0 : Nat) (Aa1 : Option Addr) (na1 : Nat) (ca1 : Nat) (w : World) (Q : Ending → World → Prop) :
    wp Aa0 na0 ca0 Aa1 na1 ca1 w Q = codeW Try.prog hT 46 D (tab tb) [] body (topQ Try.prog hT 46 [.tmp 4] Q) (argsF [.slice Aa0 na0 ca0, .slice Aa1 na1 ca1]) w := by kernel_rfl
theorem ok (Aa0 : Option Addr) (na0 : Nat) (ca0 : Nat) (Aa1 : Option Addr) (na1 : Nat) (ca1 : Nat) (w : World) (Q : Ending → World → Prop) (h : wp Aa0 na0 ca0 Aa1 na1 ca1 w Q) : Calls Try.prog 42 #[.slice Aa0 na0 ca0, .slice Aa1 na1 ca1] w Q := by
  rw [wp_eq] at h
  exact calls_of_codeW (c := body) (rs := [.tmp 4]) Try.func42 (by kernel_rfl) (by kernel_rfl) (by kernel_rfl) (by kernel_rfl) (by kernel_rfl) (tab_snd (by
    intro x hx
    simp only [tb, List.mem_cons, List.not_mem_nil, or_false] at hx
    subst hx
    exact l0_snd)) (by kernel_rfl) h
end f_ref01_Order
namespace f_crc_step
/-! skein/crc.step: function 43 -/
noncomputable def body : Code := (Try.f43.body).getD .skip
def wp (xa0 : Int) (w : World) (Q : Ending → World → Prop) : Prop :=
  Q (.returned (.int .u32 (bxor .u32 (xa0.fdiv (2 ^ 1)) (band .u32 (3988292384 : Int) (IntKind.u32.wrap (0 - (band .u32 xa0 (1 : Int)))))))) w
def D : Nat → Option DH := dtab []
def tb : List (List Nat × Spec) := []
theorem wp_eq (xa0 : Int) (w : World) (Q : Ending → World → Prop) :
    wp xa0 w Q = codeW Try.prog hT 10 D (tab tb) [] body (topQ Try.prog hT 10 [.tmp 2] Q) (argsF [.int .u32 xa0]) w := by kernel_rfl
theorem ok (xa0 : Int) (w : World) (Q : Ending → World → Prop) (h : wp xa0 w Q) : Calls Try.prog 43 #[.int .u32 xa0] w Q := by
  rw [wp_eq] at h
  exact calls_of_codeW (c := body) (rs := [.tmp 2]) Try.func43 (by kernel_rfl) (by kernel_rfl) (by kernel_rfl) (by kernel_rfl) (by kernel_rfl) (tab_snd (by
    intro x hx
    simp only [tb, List.not_mem_nil] at hx
    )) (by kernel_rfl) h
end f_crc_step
namespace f_ref01_Spoil
/-! skein/skeinref01.Spoil: function 44 -/
noncomputable def body : Code := (Try.f44.body).getD .skip
def l0 : Nat → Option Addr → Nat → Nat → Int → World → (World → Prop) → Prop
  | 0, _, _, _, _, _, _ => False
  | k + 1, At0, nt0, ct0, xt2, w, K0 =>
    sel (decide (xt2 < (nt0 : Int))) (
    optB At0 fun a1 =>
    req (decide (0 ≤ xt2 ∧ xt2 < (nt0 : Int))) <|
    ldI w (a1.add (xt2.toNat * 1)) .u8 fun x2 =>
    optB At0 fun a3 =>
    req (decide (0 ≤ xt2 ∧ xt2 < (nt0 : Int))) <|
    stW w (a3.add (xt2.toNat * 1)) (.int .u8 (bxor .u8 x2 (90 : Int))) fun w4 =>
    l0 k At0 nt0 ct0 (IntKind.i64.wrap (xt2 + (1 : Int))) w4 K0) (
    K0  w)
def wp (Aa0 : Option Addr) (na0 : Nat) (ca0 : Nat) (w : World) (Q : Ending → World → Prop) : Prop :=
  ∃ k6 : Nat, l0 k6 Aa0 na0 ca0 (0 : Int) w (fun (w5 : World) => ∀ _ : Fr,
  Q (.returned (.tuple #[])) w5)
def D : Nat → Option DH := dtab []
def l0LO : LO := ⟨[], [], [(0, [])], []⟩
def l0Tk (k : Nat) : Spec := fun Q σ w =>
  gSlice (σ 0) fun At0 nt0 ct0 =>
  gInt .i64 (σ 2) fun xt2 =>
  l0 k At0 nt0 ct0 xt2 w (fun (w : World) => ∀ d : Fr, Q (.exit 0) (ov d []) w)
def l0T : Spec := fun Q σ w => ∃ k, l0Tk k Q σ w
def l0tb : List (List Nat × Spec) := []
noncomputable def l0b : Code := (subC [0, 0, 1] body).getD .skip
theorem l0_eq (k : Nat) (At0 : Option Addr) (nt0 : Nat) (ct0 : Nat) (xt2 : Int) (Q : PQ) (σ : Fr) (w : World) :
    l0 (k + 1) At0 nt0 ct0 xt2 w (fun (w : World) => ∀ d : Fr, Q (.exit 0) (ov d []) w) = codeW Try.prog hT 17 D (tab l0tb) [0, 0, 1] l0b (thenQ (l0Tk k Q) (widen l0LO Q)) (ov σ [(0, .slice At0 nt0 ct0), (2, .int .i64 xt2)]) w := by kernel_rfl
theorem l0_snd : ∀ c, subC [0, 1] body = some c → Snd Try.prog 17 c l0T := by
  refine loop_of (hT := hT) (D := D) (l := l0tb) (b := l0b) (lo := l0LO) (by kernel_rfl) (by
    intro x hx
    simp only [l0tb, List.not_mem_nil] at hx
    ) (by kernel_rfl) (by kernel_rfl) ?_ ?_
  · intro Q σ w h
    unfold l0Tk at h
    obtain ⟨At0, nt0, ct0, h0, hn⟩ := gSlice_elim h
    clear h
    have h := hn
    clear hn
    obtain ⟨xt2, h2, hn⟩ := gInt_elim h
    clear h
    have h := hn
    clear hn
    exact h
  · intro k Q σ w h
    unfold l0Tk at h
    obtain ⟨At0, nt0, ct0, h0, hn⟩ := gSlice_elim h
    clear h
    have h := hn
    clear hn
    obtain ⟨xt2, h2, hn⟩ := gInt_elim h
    clear h
    have h := hn
    clear hn
    rw [l0_eq (σ := σ)] at h
    have e : (ov σ [(0, .slice At0 nt0 ct0), (2, .int .i64 xt2)]) = σ := ov_self (by simp [h0, h2])
    rw [e] at h
    exact h
def tb : List (List Nat × Spec) := [([0, 1], l0T)]
theorem wp_eq (Aa0 : Option Addr) (na0 : Nat) (ca0 : Nat) (w : World) (Q : Ending → World → Prop) :
    wp Aa0 na0 ca0 w Q = codeW Try.prog hT 17 D (tab tb) [] body (topQ Try.prog hT 17 [] Q) (argsF [.slice Aa0 na0 ca0]) w := by kernel_rfl
theorem ok (Aa0 : Option Addr) (na0 : Nat) (ca0 : Nat) (w : World) (Q : Ending → World → Prop) (h : wp Aa0 na0 ca0 w Q) : Calls Try.prog 44 #[.slice Aa0 na0 ca0] w Q := by
  rw [wp_eq] at h
  exact calls_of_codeW (c := body) (rs := []) Try.func44 (by kernel_rfl) (by kernel_rfl) (by kernel_rfl) (by kernel_rfl) (by kernel_rfl) (tab_snd (by
    intro x hx
    simp only [tb, List.mem_cons, List.not_mem_nil, or_false] at hx
    subst hx
    exact l0_snd)) (by kernel_rfl) h
end f_ref01_Spoil
namespace f_ref01_Turned
/-! skein/skeinref01.Turned: function 45 -/
noncomputable def body : Code := (Try.f45.body).getD .skip
def l0 : Nat → Option Addr → Nat → Nat → Option Addr → Nat → Nat → Int → World → (World → Prop) → (Bool → World → Prop) → Prop
  | 0, _, _, _, _, _, _, _, _, _, _ => False
  | k + 1, At0, nt0, ct0, At1, nt1, ct1, xt5, w, K0, Kr =>
    sel (decide (xt5 < (nt1 : Int))) (
    drW w fun w1 =>
    optB At0 fun a3 =>
    req (decide (0 ≤ xt5 ∧ xt5 < (nt0 : Int))) <|
    ldI w1 (a3.add (xt5.toNat * 1)) .u8 fun x4 =>
    optB At1 fun a5 =>
    req (decide (0 ≤ xt5 ∧ xt5 < (nt1 : Int))) <|
    ldI w1 (a5.add (xt5.toNat * 1)) .u8 fun x6 =>
    sel (x4 != (bxor .u8 x6 (90 : Int))) (
    Kr false w1) (
    l0 k At0 nt0 ct0 At1 nt1 ct1 (IntKind.i64.wrap (xt5 + (1 : Int))) w1 K0 Kr)) (
    K0  w)
def wp (Aa0 : Option Addr) (na0 : Nat) (ca0 : Nat) (Aa1 : Option Addr) (na1 : Nat) (ca1 : Nat) (w : World) (Q : Ending → World → Prop) : Prop :=
  sel ((na0 : Int) != (na1 : Int)) (
  Q (.returned (.bool false)) w) (
  ∃ k10 : Nat, l0 k10 Aa0 na0 ca0 Aa1 na1 ca1 (0 : Int) w (fun (w7 : World) => ∀ _ : Fr,
  Q (.returned (.bool true)) w7) (fun (b8 : Bool) (w9 : World) => ∀ _ : Fr,
  Q (.returned (.bool b8)) w9))
def D : Nat → Option DH := dtab [(6, .simple [.fst 0, .fst 1, .fst 2, .fst 3, .fst 4, .fst 5, .fst 6, .fst 7, .fst 8] [.fst 9])]
def l0LO : LO := ⟨[], [4], [(0, [])], []⟩
def l0Tk (k : Nat) : Spec := fun Q σ w =>
  gSlice (σ 0) fun At0 nt0 ct0 =>
  gSlice (σ 1) fun At1 nt1 ct1 =>
  gInt .i64 (σ 5) fun xt5 =>
  l0 k At0 nt0 ct0 At1 nt1 ct1 xt5 w (fun (w : World) => ∀ d : Fr, Q (.exit 0) (ov d []) w) (fun (bq4 : Bool) (w : World) => ∀ d : Fr, Q .ret (ov d [(4, .bool bq4)]) w)
def l0T : Spec := fun Q σ w => ∃ k, l0Tk k Q σ w
def l0tb : List (List Nat × Spec) := []
noncomputable def l0b : Code := (subC [0, 0, 1, 0, 1, 1] body).getD .skip
theorem l0_eq (k : Nat) (At0 : Option Addr) (nt0 : Nat) (ct0 : Nat) (At1 : Option Addr) (nt1 : Nat) (ct1 : Nat) (xt5 : Int) (Q : PQ) (σ : Fr) (w : World) :
    l0 (k + 1) At0 nt0 ct0 At1 nt1 ct1 xt5 w (fun (w : World) => ∀ d : Fr, Q (.exit 0) (ov d []) w) (fun (bq4 : Bool) (w : World) => ∀ d : Fr, Q .ret (ov d [(4, .bool bq4)]) w) = codeW Try.prog hT 27 D (tab l0tb) [0, 0, 1, 0, 1, 1] l0b (thenQ (l0Tk k Q) (widen l0LO Q)) (ov σ [(0, .slice At0 nt0 ct0), (1, .slice At1 nt1 ct1), (5, .int .i64 xt5)]) w := by kernel_rfl
theorem l0_snd : ∀ c, subC [0, 1, 0, 1, 1] body = some c → Snd Try.prog 27 c l0T := by
  refine loop_of (hT := hT) (D := D) (l := l0tb) (b := l0b) (lo := l0LO) (by kernel_rfl) (by
    intro x hx
    simp only [l0tb, List.not_mem_nil] at hx
    ) (by kernel_rfl) (by kernel_rfl) ?_ ?_
  · intro Q σ w h
    unfold l0Tk at h
    obtain ⟨At0, nt0, ct0, h0, hn⟩ := gSlice_elim h
    clear h
    have h := hn
    clear hn
    obtain ⟨At1, nt1, ct1, h1, hn⟩ := gSlice_elim h
    clear h
    have h := hn
    clear hn
    obtain ⟨xt5, h5, hn⟩ := gInt_elim h
    clear h
    have h := hn
    clear hn
    exact h
  · intro k Q σ w h
    unfold l0Tk at h
    obtain ⟨At0, nt0, ct0, h0, hn⟩ := gSlice_elim h
    clear h
    have h := hn
    clear hn
    obtain ⟨At1, nt1, ct1, h1, hn⟩ := gSlice_elim h
    clear h
    have h := hn
    clear hn
    obtain ⟨xt5, h5, hn⟩ := gInt_elim h
    clear h
    have h := hn
    clear hn
    rw [l0_eq (σ := σ)] at h
    have e : (ov σ [(0, .slice At0 nt0 ct0), (1, .slice At1 nt1 ct1), (5, .int .i64 xt5)]) = σ := ov_self (by simp [h0, h1, h5])
    rw [e] at h
    exact h
def tb : List (List Nat × Spec) := [([0, 1, 0, 1, 1], l0T)]
theorem wp_eq (Aa0 : Option Addr) (na0 : Nat) (ca0 : Nat) (Aa1 : Option Addr) (na1 : Nat) (ca1 : Nat) (w : World) (Q : Ending → World → Prop) :
    wp Aa0 na0 ca0 Aa1 na1 ca1 w Q = codeW Try.prog hT 27 D (tab tb) [] body (topQ Try.prog hT 27 [.tmp 4] Q) (argsF [.slice Aa0 na0 ca0, .slice Aa1 na1 ca1]) w := by kernel_rfl
theorem ok (Aa0 : Option Addr) (na0 : Nat) (ca0 : Nat) (Aa1 : Option Addr) (na1 : Nat) (ca1 : Nat) (w : World) (Q : Ending → World → Prop) (h : wp Aa0 na0 ca0 Aa1 na1 ca1 w Q) : Calls Try.prog 45 #[.slice Aa0 na0 ca0, .slice Aa1 na1 ca1] w Q := by
  rw [wp_eq] at h
  exact calls_of_codeW (c := body) (rs := [.tmp 4]) Try.func45 (by kernel_rfl) (by kernel_rfl) (by kernel_rfl) (by kernel_rfl) (by kernel_rfl) (tab_snd (by
    intro x hx
    simp only [tb, List.mem_cons, List.not_mem_nil, or_false] at hx
    subst hx
    exact l0_snd)) (by kernel_rfl) h
end f_ref01_Turned
namespace f_crc_head
/-! skein/crc.head: function 46 -/
noncomputable def body : Code := (Try.f46.body).getD .skip
def wp (xa0 : Int) (w : World) (Q : Ending → World → Prop) : Prop :=
  alW w (.cells #[.int .u8 (0 : Int), .int .u8 (0 : Int), .int .u8 (0 : Int), .int .u8 (0 : Int)] 65) fun B1 w2 =>
  stW w2 (⟨B1, 0, Option.none⟩ : Addr) (.int .u8 (IntKind.u8.wrap xa0)) fun w3 =>
  stW w3 ((⟨B1, 0, Option.none⟩ : Addr).add 1) (.int .u8 (IntKind.u8.wrap (xa0.fdiv (2 ^ 8)))) fun w4 =>
  stW w4 ((⟨B1, 0, Option.none⟩ : Addr).add 2) (.int .u8 (IntKind.u8.wrap (xa0.fdiv (2 ^ 16)))) fun w5 =>
  stW w5 ((⟨B1, 0, Option.none⟩ : Addr).add 3) (.int .u8 (IntKind.u8.wrap (xa0.fdiv (2 ^ 24)))) fun w6 =>
  ldI w6 (⟨B1, 0, Option.none⟩ : Addr) .u8 fun x7 =>
  ldI w6 ((⟨B1, 0, Option.none⟩ : Addr).add 1) .u8 fun x8 =>
  ldI w6 ((⟨B1, 0, Option.none⟩ : Addr).add 2) .u8 fun x9 =>
  ldI w6 ((⟨B1, 0, Option.none⟩ : Addr).add 3) .u8 fun x10 =>
  Q (.returned (.agg #[.int .u8 x7, .int .u8 x8, .int .u8 x9, .int .u8 x10])) w6
def D : Nat → Option DH := dtab []
def tb : List (List Nat × Spec) := []
theorem wp_eq (xa0 : Int) (w : World) (Q : Ending → World → Prop) :
    wp xa0 w Q = codeW Try.prog hT 15 D (tab tb) [] body (topQ Try.prog hT 15 [.cell 2 65] Q) (argsF [.int .u32 xa0]) w := by kernel_rfl
theorem ok (xa0 : Int) (w : World) (Q : Ending → World → Prop) (h : wp xa0 w Q) : Calls Try.prog 46 #[.int .u32 xa0] w Q := by
  rw [wp_eq] at h
  exact calls_of_codeW (c := body) (rs := [.cell 2 65]) Try.func46 (by kernel_rfl) (by kernel_rfl) (by kernel_rfl) (by kernel_rfl) (by kernel_rfl) (tab_snd (by
    intro x hx
    simp only [tb, List.not_mem_nil] at hx
    )) (by kernel_rfl) h
end f_crc_head
namespace f_bytes_Clone
/-! bytes.Clone: function 47 -/
noncomputable def body : Code := (Try.f47.body).getD .skip
def wp (Aa0 : Option Addr) (na0 : Nat) (ca0 : Nat) (w : World) (Q : Ending → World → Prop) : Prop :=
  sel Aa0.isNone (
  Q (.returned (.slice none 0 0)) w) (
  alW w (.cells #[] 5) fun B1 w2 =>
  Runs Try.prog (Builtin.append_ #[22, 22] 22 #[.slice (some (⟨B1, 0, Option.none⟩ : Addr)) 0 0, .slice Aa0 na0 ca0]) w2 fun v4 w3 => ∃ (A5 : Option Addr) (n5 : Nat) (c5 : Nat), v4 = (.slice A5 n5 c5) ∧ (
  Q (.returned (.slice A5 n5 c5)) w3))
def D : Nat → Option DH := dtab []
def tb : List (List Nat × Spec) := []
theorem wp_eq (Aa0 : Option Addr) (na0 : Nat) (ca0 : Nat) (w : World) (Q : Ending → World → Prop) :
    wp Aa0 na0 ca0 w Q = codeW Try.prog hT 8 D (tab tb) [] body (topQ Try.prog hT 8 [.tmp 2] Q) (argsF [.slice Aa0 na0 ca0]) w := by kernel_rfl
theorem ok (Aa0 : Option Addr) (na0 : Nat) (ca0 : Nat) (w : World) (Q : Ending → World → Prop) (h : wp Aa0 na0 ca0 w Q) : Calls Try.prog 47 #[.slice Aa0 na0 ca0] w Q := by
  rw [wp_eq] at h
  exact calls_of_codeW (c := body) (rs := [.tmp 2]) Try.func47 (by kernel_rfl) (by kernel_rfl) (by kernel_rfl) (by kernel_rfl) (by kernel_rfl) (tab_snd (by
    intro x hx
    simp only [tb, List.not_mem_nil] at hx
    )) (by kernel_rfl) h
end f_bytes_Clone
namespace f_ref01_Unfold
/-! skein/skeinref01.Unfold: function 48 -/
noncomputable def body : Code := (Try.f48.body).getD .skip
def wp (xa0 : Int) (w : World) (Q : Ending → World → Prop) : Prop :=
  sel ((xa0.tmod (2 : Int)) == (0 : Int)) (
  Q (.returned (.int .i64 (IntKind.i64.wrap (IntKind.u64.wrap (xa0.tdiv (2 : Int)))))) w) (
  Q (.returned (.int .i64 (IntKind.i64.wrap ((IntKind.i64.wrap (0 - (IntKind.i64.wrap (IntKind.u64.wrap (xa0.tdiv (2 : Int)))))) - (1 : Int))))) w)
def D : Nat → Option DH := dtab []
def tb : List (List Nat × Spec) := []
theorem wp_eq (xa0 : Int) (w : World) (Q : Ending → World → Prop) :
    wp xa0 w Q = codeW Try.prog hT 14 D (tab tb) [] body (topQ Try.prog hT 14 [.tmp 2] Q) (argsF [.int .u64 xa0]) w := by kernel_rfl
theorem ok (xa0 : Int) (w : World) (Q : Ending → World → Prop) (h : wp xa0 w Q) : Calls Try.prog 48 #[.int .u64 xa0] w Q := by
  rw [wp_eq] at h
  exact calls_of_codeW (c := body) (rs := [.tmp 2]) Try.func48 (by kernel_rfl) (by kernel_rfl) (by kernel_rfl) (by kernel_rfl) (by kernel_rfl) (tab_snd (by
    intro x hx
    simp only [tb, List.not_mem_nil] at hx
    )) (by kernel_rfl) h
end f_ref01_Unfold
end Go.Proofs.Ytkimodpighdgeaa.Rd
