/- The printed readings of some functions: each function's code reckoned by the kernel to its predicate transformer. -/
import Derived.Test.YtifambgaekjilaaDoorHint
namespace Go.Proofs.YtifambgaekjilaaDoor.Rd
open Go.Dn
set_option maxRecDepth 100000
set_option linter.unusedVariables false
namespace f_page_low_Post
/-! skein/page.low: function 32 -/
noncomputable def body : Code := (Tryd.f32.body).getD .skip
def j0 (at3 : Addr) (w : World) (Kr : Int → World → Prop) : Prop :=
  ldI w at3 .u64 fun x6 =>
  Kr x6 w
def D : Nat → Option DH := dtab []
def j0LO : LO := ⟨[], [2], [], []⟩
def j0T : Spec := fun Q σ w =>
  gAd (σ 3) fun at3 =>
  j0 at3 w (fun (xq2 : Int) (w : World) => ∀ d : Fr, Q .ret (ov d [(2, .int .u64 xq2)]) w)
def j0tb : List (List Nat × Spec) := []
noncomputable def j0b : Code := (subC [1, 1, 1] body).getD .skip
theorem j0_eq (at3 : Addr) (Q : PQ) (σ : Fr) (w : World) :
    j0 at3 w (fun (xq2 : Int) (w : World) => ∀ d : Fr, Q .ret (ov d [(2, .int .u64 xq2)]) w) = codeW Tryd.prog hT 16 D (tab j0tb) [1, 1, 1] j0b (widen j0LO Q) (ov σ [(3, .pointer (some at3))]) w := by kernel_rfl
theorem j0_snd : ∀ c, subC [1, 1, 1] body = some c → Snd Tryd.prog 16 c j0T := by
  refine cut_of (hT := hT) (D := D) (l := j0tb) (b := j0b) (lo := j0LO) (by kernel_rfl) (by
    intro x hx
    simp only [j0tb, List.not_mem_nil] at hx
    ) (by kernel_rfl) (by kernel_rfl) ?_
  intro Q σ w h
  unfold j0T at h
  obtain ⟨at3, h3, hn⟩ := gAd_elim h
  clear h
  have h := hn
  clear hn
  rw [j0_eq (σ := σ)] at h
  have e : (ov σ [(3, .pointer (some at3))]) = σ := ov_self (by simp [h3])
  rw [e] at h
  exact h
end f_page_low_Post
end Go.Proofs.YtifambgaekjilaaDoor.Rd
