/- The printed readings of some functions: each function's code reckoned by the kernel to its predicate transformer. -/
import Derived.Test.YtpokaafedpnbdaaDoorHint
namespace Go.Proofs.YtpokaafedpnbdaaDoor.Rd
open Go.Dn
set_option maxRecDepth 100000
set_option linter.unusedVariables false
namespace f_wal_Log_Back_Post
/-! (*skein/wal.Log).Back: function 26 -/
noncomputable def body : Code := (Tryd.f26.body).getD .skip
def j0 (at4 : Addr) (at5 : Addr) (w : World) (Kr : World → Prop) : Prop :=
  stW w at4 (.int .i64 (0 : Int)) fun w12 =>
  stW w12 (at4.add 1) (.int .i64 (0 : Int)) fun w13 =>
  stW w13 (at4.add 2) (.slice none 0 0) fun w14 =>
  stW w14 at5 (.bool false) fun w15 =>
  Kr  w15
def D : Nat → Option DH := dtab []
def j0LO : LO := ⟨[], [4, 5], [], []⟩
def j0T : Spec := fun Q σ w =>
  gAd (σ 4) fun at4 =>
  gAd (σ 5) fun at5 =>
  j0 at4 at5 w (fun (w : World) => ∀ d : Fr, Q .ret (ov d [(4, .pointer (some at4)), (5, .pointer (some at5))]) w)
def j0tb : List (List Nat × Spec) := []
noncomputable def j0b : Code := (subC [1, 1] body).getD .skip
theorem j0_eq (at4 : Addr) (at5 : Addr) (Q : PQ) (σ : Fr) (w : World) :
    j0 at4 at5 w (fun (w : World) => ∀ d : Fr, Q .ret (ov d [(4, .pointer (some at4)), (5, .pointer (some at5))]) w) = codeW Tryd.prog hT 25 D (tab j0tb) [1, 1] j0b (widen j0LO Q) (ov σ [(4, .pointer (some at4)), (5, .pointer (some at5))]) w := by kernel_rfl
theorem j0_snd : ∀ c, subC [1, 1] body = some c → Snd Tryd.prog 25 c j0T := by
  refine cut_of (hT := hT) (D := D) (l := j0tb) (b := j0b) (lo := j0LO) (by kernel_rfl) (by
    intro x hx
    simp only [j0tb, List.not_mem_nil] at hx
    ) (by kernel_rfl) (by kernel_rfl) ?_
  intro Q σ w h
  unfold j0T at h
  obtain ⟨at4, h4, hn⟩ := gAd_elim h
  clear h
  have h := hn
  clear hn
  obtain ⟨at5, h5, hn⟩ := gAd_elim h
  clear h
  have h := hn
  clear hn
  rw [j0_eq (σ := σ)] at h
  have e : (ov σ [(4, .pointer (some at4)), (5, .pointer (some at5))]) = σ := ov_self (by simp [h4, h5])
  rw [e] at h
  exact h
end f_wal_Log_Back_Post
namespace f_wal_Log_Back_Body
/-! (*skein/wal.Log).Back: function 26 -/
noncomputable def body : Code := (Tryd.f26.body).getD .skip
def j0 (at3 : Addr) (at4 : Addr) (at5 : Addr) (at7 : Addr) (w : World) (Kn : World → Prop) (Kr : World → Prop) : Prop :=
  ldI w at7 .i64 fun x19 =>
  ldI w at3 .i64 fun x20 =>
  sel (decide (x19 < x20)) (
  ldS w (at7.add 2) fun A21 n21 c21 =>
  Calls Tryd.prog 33 #[.slice A21 n21 c21] w fun e22 w23 => ∃ (A24 : Option Addr) (n24 : Nat) (c24 : Nat), e22 = .returned (.slice A24 n24 c24) ∧ (
  stW w23 (at7.add 2) (.slice A24 n24 c24) fun w25 =>
  ldI w25 at7 .i64 fun x26 =>
  ldI w25 (at7.add 1) .i64 fun x27 =>
  ldS w25 (at7.add 2) fun A28 n28 c28 =>
  stW w25 at4 (.int .i64 x26) fun w29 =>
  stW w29 (at4.add 1) (.int .i64 x27) fun w30 =>
  stW w30 (at4.add 2) (.slice A28 n28 c28) fun w31 =>
  stW w31 at5 (.bool true) fun w32 =>
  Kr  w32)) (
  Kn  w)
def D : Nat → Option DH := dtab []
def j0LO : LO := ⟨[], [4, 5], [], []⟩
def j0T : Spec := fun Q σ w =>
  gAd (σ 3) fun at3 =>
  gAd (σ 4) fun at4 =>
  gAd (σ 5) fun at5 =>
  gAd (σ 7) fun at7 =>
  j0 at3 at4 at5 at7 w (fun (w : World) => ∀ d : Fr, Q .normal (ov d []) w) (fun (w : World) => ∀ d : Fr, Q .ret (ov d [(4, .pointer (some at4)), (5, .pointer (some at5))]) w)
def j0tb : List (List Nat × Spec) := []
noncomputable def j0b : Code := (subC [1, 0, 1, 0, 1] body).getD .skip
theorem j0_eq (at3 : Addr) (at4 : Addr) (at5 : Addr) (at7 : Addr) (Q : PQ) (σ : Fr) (w : World) :
    j0 at3 at4 at5 at7 w (fun (w : World) => ∀ d : Fr, Q .normal (ov d []) w) (fun (w : World) => ∀ d : Fr, Q .ret (ov d [(4, .pointer (some at4)), (5, .pointer (some at5))]) w) = codeW Tryd.prog hT 25 D (tab j0tb) [1, 0, 1, 0, 1] j0b (widen j0LO Q) (ov σ [(3, .pointer (some at3)), (4, .pointer (some at4)), (5, .pointer (some at5)), (7, .pointer (some at7))]) w := by kernel_rfl
theorem j0_snd : ∀ c, subC [1, 0, 1, 0, 1] body = some c → Snd Tryd.prog 25 c j0T := by
  refine cut_of (hT := hT) (D := D) (l := j0tb) (b := j0b) (lo := j0LO) (by kernel_rfl) (by
    intro x hx
    simp only [j0tb, List.not_mem_nil] at hx
    ) (by kernel_rfl) (by kernel_rfl) ?_
  intro Q σ w h
  unfold j0T at h
  obtain ⟨at3, h3, hn⟩ := gAd_elim h
  clear h
  have h := hn
  clear hn
  obtain ⟨at4, h4, hn⟩ := gAd_elim h
  clear h
  have h := hn
  clear hn
  obtain ⟨at5, h5, hn⟩ := gAd_elim h
  clear h
  have h := hn
  clear hn
  obtain ⟨at7, h7, hn⟩ := gAd_elim h
  clear h
  have h := hn
  clear hn
  rw [j0_eq (σ := σ)] at h
  have e : (ov σ [(3, .pointer (some at3)), (4, .pointer (some at4)), (5, .pointer (some at5)), (7, .pointer (some at7))]) = σ := ov_self (by simp [h3, h4, h5, h7])
  rw [e] at h
  exact h
end f_wal_Log_Back_Body
end Go.Proofs.YtpokaafedpnbdaaDoor.Rd
