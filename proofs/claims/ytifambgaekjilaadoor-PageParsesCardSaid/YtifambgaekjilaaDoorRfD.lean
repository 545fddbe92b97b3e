/- Code behind a range over a function: its reading, under the mark. Conditions: none. -/
import Derived.RangeFuncNested
import Derived.RangeFuncLeaves
import Derived.OwnWalkIn
import Derived.Test.YtifambgaekjilaaDoorDen
namespace Go.Dn
theorem act_of {n : Nat} {l : List Value} (hl : l.length = n) (ds : List Deferred) : ({ tmps := ⟨l⟩, defers := ds } : Act) = act ds n (argsF l) := by
  unfold act
  congr 1
  apply Array.ext
  · simp [hl]
  · intro i h1 h2
    have hi : i < l.length := by simpa using h1
    simp [argsF, List.getD_eq_getElem?_getD, hi]
/-- what is asked at the ends of the code behind the loop -/
def rfQ (P : Program) (hT : Hint) (n : Nat) (rs : List ResultVar) (D : Nat) (R : Ending → World → Prop) : PQ := fun e σ w => match e with
  | .normal => w.heap[D]? = some (.deferred (some [])) ∧ resGo P hT n σ (w.putObj D (.deferred none)) rs fun vs => R (.returned (packV vs)) (w.putObj D (.deferred none))
  | .ret => w.heap[D]? = some (.deferred (some [])) ∧ resGo P hT n σ (w.putObj D (.deferred none)) rs fun vs => R (.returned (packV vs)) (w.putObj D (.deferred none))
  | _ => False
theorem post_wp {P : Program} {hT : Hint} {n m D : Nat} {c : Code} {T : Spec} {fn : Func} {rs : List ResultVar} {l : List Value} {W : World} {R : Ending → World → Prop} (hs : Snd P n c T) (hl : l.length = n) (hrs : fn.results = ⟨rs⟩)
    (h : T (rfQ P hT n rs D R) (argsF l) W) : c.wpIn Fence.wide m P (bodyPostM Fence.wide m P fn R) { tmps := ⟨l⟩, defers := [{ target := .collected D, args := #[] }] } W := by
  rw [act_of hl]
  refine wpIn_wide.2 (wp_mono (hs _ _ _ _ h) ?_)
  intro ex a w' hq
  have fin : ∀ σ, w'.heap[D]? = some (.deferred (some [])) → resGo P hT n σ (w'.putObj D (.deferred none)) rs (fun vs => R (.returned (packV vs)) (w'.putObj D (.deferred none))) →
      LeavesInM Fence.wide m P fn (act [{ target := .collected D, args := #[] }] n σ).tmps R [{ target := .collected D, args := #[] }] .returning w' := by
    intro σ hK hr
    obtain ⟨vs, hr, hk⟩ := results_sound (ds := [{ target := .collected D, args := #[] }]) hrs hr
    exact ⟨by simp, .inl ⟨_, _, rfl, run_takeDeferred hK, ⟨_, hr, hk⟩⟩⟩
  cases ex <;> simp only [liftQ] at hq
  case normal => obtain ⟨σ, rfl, hK, hr⟩ := hq; exact fin σ hK hr
  case ret => obtain ⟨σ, rfl, hK, hr⟩ := hq; exact fin σ hK hr
  case exit => obtain ⟨σ, rfl, hq⟩ := hq; exact hq.elim
  case goto => obtain ⟨σ, rfl, hq⟩ := hq; exact hq.elim
theorem below_put {B D : Nat} (W : World) (o : Obj) (h : B ≤ D) : Go.RowKit.Below B W (W.putObj D o) := ⟨rfl, rfl, rfl, by simp [World.putObj], fun k hk => World.putObj_heap_other (by omega)⟩
theorem gSlice_i {v : Value} {A : Option Addr} {n c : Nat} {K : Option Addr → Nat → Nat → Prop} (h : v = .slice A n c) (k : K A n c) : gSlice v K := by subst h; exact k
theorem gAd_i {v : Value} {a : Addr} {K : Addr → Prop} (h : v = .pointer (some a)) (k : K a) : gAd v K := by subst h; exact k
theorem gInt_i {v : Value} {k : IntKind} {x : Int} {K : Int → Prop} (h : v = .int k x) (q : K x) : gInt k v K := by subst h; unfold gInt; simpa [req] using q
/-- a loop's body by its printed reading: what is asked at its ends is asked of the world alone -/
theorem piece_wp {P : Program} {n m : Nat} {c : Code} {T : Spec} {l : List Value} {W : World} {G : Exit → Act → World → Prop} (hs : Snd P n c T) (hl : l.length = n) (h : T (fun e _ w => ∀ a, G e a w) (argsF l) W) :
    c.wpIn Fence.wide m P G { tmps := ⟨l⟩, defers := [] } W := by
  rw [act_of hl]
  refine wpIn_wide.2 (wp_mono (hs _ _ _ _ h) ?_)
  intro ex a w' hq
  cases ex <;> simp only [liftQ] at hq
  all_goals first
    | exact hq.elim
    | (obtain ⟨_, _, hq⟩ := hq; exact hq _)
/-- 'return' alone, under the mark -/
theorem ret_snd {P : Program} {n : Nat} : Snd P n .ret (fun Q σ w => Q .ret σ w) := fun ds Q σ w h => wp_ret ⟨σ, rfl, h⟩
end Go.Dn
