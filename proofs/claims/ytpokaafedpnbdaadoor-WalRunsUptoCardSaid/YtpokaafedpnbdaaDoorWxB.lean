/- slices.Backward over bytes: its iterator's contract, for every loop body · bytes.Trim with a zero · Code behind a range over a function: its reading, under the mark · wal.parse: what stands behind its loop · wal.parse: a log sector read -/
import Derived.RangeFuncNested
import Derived.RangeFuncBound
import Derived.RangeFuncCalls
import Derived.RangeFuncLeaves
import Derived.Shelf.Abstract
import Derived.Shelf.RegionOpen
import Derived.WalkKit
import Derived.OwnWalkIn
import Derived.TacticsInMore
import Derived.LoopNIn
import Derived.LoopIn
import Derived.Test.YtpokaafedpnbdaaDoorDkA
import Derived.Test.YtpokaafedpnbdaaDoorWxA
import Derived.Test.YtpokaafedpnbdaaDoorDen
import Derived.Test.YtpokaafedpnbdaaDoorRdP
import Derived.Test.YtpokaafedpnbdaaDoorBase
/-! slices.Backward over bytes: its iterator's contract, for every loop body. Conditions: none. -/
namespace Go.Proofs.YtpokaafedpnbdaaDoor.Rd
open Go.RowKit Go.Shelf
attribute [local go_sem] Oper.semAt_some
set_option linter.unusedVariables false
set_option linter.unusedSimpArgs false
def bAt (l : List UInt8) (j : Nat) : UInt8 := l.getD j 0
/-- what comes: from the last one to the first, each with its place -/
def bkB (l : List UInt8) (k : Nat) : Nat × UInt8 := (l.length - 1 - k, bAt l (l.length - 1 - k))
abbrev eBt (x : Nat × UInt8) : Array Value := #[.int .i64 (x.1 : Int), .int .u8 (x.2.toNat : Int)]
set_option maxRecDepth 100000 in
set_option maxHeartbeats 4000000 in
theorem backB_in (F : Fence) (n : Nat) (h7 : F.fn 93) (hro : F.round = none) (hn : 1 ≤ n) (l Bs n₀ x b off cap : Nat) (fs : List UInt8) (hreach : fs.length ≤ 140737488355328) (hb : b < n₀) (hbx : b ≠ x) (hBx : Bs ≠ x) (J Jx : List (Nat × UInt8) → World → Prop)
    (hY : ∀ pre y W, J pre W → pre.length < fs.length → YieldAt F (n - 1) Tryd.prog l (eBt y) W fun e W' =>
      (e = .returned (.bool true) ∧ J (pre ++ [y]) W' ∧ KpX n₀ x W W') ∨ (e = .returned (.bool false) ∧ Jx (pre ++ [y]) W'))
    (W : World) (hBs : W.cell? ⟨Bs, 0, none⟩ = some (.slice (some ⟨b, off, none⟩) fs.length cap)) (hBn : Bs < n₀)
    (hc : ∀ j, j < fs.length → W.cell? ⟨b, off + j, none⟩ = some (.int .u8 ((bAt fs j).toNat : Int))) (h0 : J [] W) :
    CallsIn F n Tryd.prog 93 #[.func (.yield l) #[] #[], .pointer (some ⟨Bs, 0, none⟩)] W fun e W' => (∃ v, e = .returned v) ∧
      ((∃ ys, ys = upto (bkB fs) fs.length ∧ J ys W') ∨ (∃ pre, (∃ k, k ≤ fs.length ∧ pre = upto (bkB fs) k) ∧ Jx pre W')) := by
  refine callsIn_of_wp Tryd.func93 rfl h7 ?_ hro
  simp only [Tryd.ntmps93, List.size_toArray, List.length_cons, List.length_nil, Nat.reduceAdd, Nat.reduceSub, Array.replicate_succ, Array.replicate_zero, List.push_toArray, List.append_toArray, List.nil_append, List.cons_append]
  gi_wp2
  gi_loopw [3] (fun i wr => ∃ k : Nat, k ≤ fs.length ∧ i = .int .i64 ((fs.length : Int) - 1 - k) ∧ J (upto (bkB fs) k) wr ∧ KpX n₀ x W wr)
    (fun i _ => (intOf i + 1).toNat)
  case atStart => exact ⟨0, Nat.zero_le _, by simp, h0, KpX.refl _ _ _⟩
  case round =>
    obtain ⟨k, hk, rfl, hJs, hnx⟩ := hrel
    have hBs' : wr.cell? ⟨Bs, 0, none⟩ = some (.slice (some ⟨b, off, none⟩) fs.length cap) := hnx.cell (p := ⟨Bs, 0, none⟩) hBn hBx hBs
    by_cases hlt : k < fs.length
    · obtain ⟨j, hj⟩ : ∃ j, fs.length - 1 - k = j := ⟨_, rfl⟩
      have hi : (fs.length : Int) - 1 - k = (j : Int) := by omega
      have hjl : j < fs.length := by omega
      have hc0 : wr.cell? ⟨b, off + j, none⟩ = some (.int .u8 ((bAt fs j).toNat : Int)) := hnx.cell (p := ⟨b, off + j, none⟩) hb hbx (hc j hjl)
      obtain ⟨fn, tmps, assign, body, hy, hR⟩ := hY _ (bkB fs k) wr hJs (by rw [upto_length]; exact hlt)
      have ebk : bkB fs k = (j, bAt fs j) := by unfold bkB; rw [hj]
      rw [ebk] at hy
      dsimp only [eBt] at hy
      rw [hi]
      gi_wp2
      refine hR.mono ?_
      rintro e W3 (⟨rfl, hJ3, hk3⟩ | ⟨rfl, hJx3⟩)
      · gi_wp2
        go_roundw
        case rel => exact ⟨k + 1, by omega, by simp; omega, by rw [upto_succ]; exact hJ3, hnx.trans hk3⟩
        case measure => simp [intOf]
      · gi_wp2
        refine bodyPost_ret (results_none rfl _ _ _) rfl ?_
        exact ⟨⟨_, rfl⟩, .inr ⟨_, ⟨k + 1, by omega, (upto_succ _ _).symm⟩, hJx3⟩⟩
    · obtain rfl : k = fs.length := by omega
      gi_wp2
      go_end0
      exact ⟨⟨_, rfl⟩, .inl ⟨_, rfl, hJs⟩⟩
/-- bytes readable below n₀ -/
def Byts (n₀ x : Nat) (W : World) (A : Option Addr) (fs : List UInt8) : Prop :=
  ∃ b off, A = some ⟨b, off, none⟩ ∧ b < n₀ ∧ b ≠ x ∧ ∀ j, j < fs.length → W.cell? ⟨b, off + j, none⟩ = some (.int .u8 ((bAt fs j).toNat : Int))
theorem Byts.below {n₀ x : Nat} {W W' : World} (h : Below n₀ W W') {A : Option Addr} {fs : List UInt8} : Byts n₀ x W A fs → Byts n₀ x W' A fs
  | ⟨b, off, e, hb, hx, hc⟩ => ⟨b, off, e, hb, hx, fun j hj => (h.cell (p := ⟨b, off + j, none⟩) hb).trans (hc j hj)⟩
/-- the iterator that slices.Backward hands back -/
theorem backB_stops (F : Fence) (n : Nat) (h7 : F.fn 93) (hro : F.round = none) (hn : 1 ≤ n) (Bs n₀ x : Nat) (A : Option Addr) (cap : Nat) (fs : List UInt8) (hreach : fs.length ≤ 140737488355328) (w : World) (hBn : Bs < n₀) (hBx : Bs ≠ x) (hn₀ : n₀ ≤ w.heap.size)
    (hc : w.cell? ⟨Bs, 0, none⟩ = some (.slice A fs.length cap)) (hI : Byts n₀ x w A fs) :
    SeqStopsK F n Tryd.prog 93 #[.pointer (some ⟨Bs, 0, none⟩)] eBt (KpX n₀ x) (fun ys => ys = upto (bkB fs) fs.length) (fun pre => ∃ k, k ≤ fs.length ∧ pre = upto (bkB fs) k) fs.length w := fun l J Jx W hW _ _ hY h0 => by
  have hc' := (hW.cell (p := ⟨Bs, 0, none⟩) (Nat.lt_of_lt_of_le hBn hn₀)).trans hc
  obtain ⟨b, off, rfl, hb, hbx, hcs⟩ := hI.below (hW.mono hn₀)
  exact backB_in F n h7 hro hn l Bs n₀ x b off cap fs hreach hb hbx hBx J Jx hY W hc' hBn hcs h0
end Go.Proofs.YtpokaafedpnbdaaDoor.Rd

/-! bytes.Trim with a zero. Conditions: none. -/
namespace Go.Proofs.YtpokaafedpnbdaaDoor.Rd
open Go.Dn Go.RowKit
set_option linter.unusedVariables false
set_option linter.unusedSimpArgs false
theorem trimR_l0 {w : World} (K0 : Option Addr → Nat → Nat → World → Prop) : ∀ (m : Nat) (A : Option Addr) (c : Nat) (l : List UInt8), l.length = m → l.length ≤ c → l.length ≤ 140737488355328 → Go.Dn.RB w A l →
    (∀ A' c' l', Go.Dn.RB w A' l' → l'.length ≤ c' → l'.length ≤ l.length → ((∀ b ∈ l, b = 0) → l' = []) → (l' = [] → ∀ b ∈ l, b = 0) → (∀ h : l' ≠ [], l'.getLast h ≠ 0) → K0 A' l'.length c' w) → f_bytes_trimRightByte.l0 (m + 1) A l.length c 0 w K0 := by
  intro m
  induction m with
  | zero =>
    intro A c l hm hc hl hr k
    have : l = [] := List.length_eq_zero_iff.1 hm
    subst this
    unfold f_bytes_trimRightByte.l0
    exact sel_f (by simp) (k A c [] hr hc (Nat.le_refl _) (fun _ => rfl) (fun _ b hb => by cases hb) (fun h => absurd rfl h))
  | succ m ih =>
    intro A c l hm hc hl hr k
    have hne : l ≠ [] := fun h => by subst h; cases hm
    have ew : IntKind.i64.wrap ((l.length : Int) - 1) = (m : Int) := by rw [w64_in (by omega)]; omega
    have hlt : m < l.length := by omega
    obtain ⟨a, rfl, q⟩ := hr m hlt
    have elast : l.getLast hne = l[m] := by rw [List.getLast_eq_getElem]; congr 1; omega
    unfold f_bytes_trimRightByte.l0
    rw [ew]
    refine sel_t (by simp; omega) (optB_some rfl (req_intro (by simp; omega) (ldI_intro (x := (l[m].toNat : Int)) (by rw [Int.toNat_natCast, Nat.mul_one]; exact q) ?_)))
    by_cases e : l[m] = 0
    · refine sel_t (by rw [e]; rfl) (req_intro (by simp; omega) ?_)
      rw [slA0, show ((m : Int).toNat - 0) = (l.take m).length by rw [List.length_take]; omega]
      refine ih (some a) (c - 0) (l.take m) (by rw [List.length_take]; omega) (by rw [List.length_take]; omega) (by rw [List.length_take]; omega) (hr.take m) fun A' c' l' q1 q2 q3 q4 q5 q6 => ?_
      have sp : ∀ b ∈ l, b ∈ l.take m ∨ b = 0 := fun b hb => by
        have e2 : l = l.take m ++ [l[m]] := by
          rw [← List.take_succ_eq_append_getElem hlt, List.take_of_length_le (by omega)]
        rw [e2] at hb
        rcases List.mem_append.1 hb with h | h
        · exact .inl h
        · exact .inr (by rw [List.mem_singleton.1 h, e])
      exact k A' c' l' q1 q2 (Nat.le_trans q3 (by rw [List.length_take]; omega)) (fun h => q4 fun b hb => h b (List.mem_of_mem_take hb)) (fun h b hb => (sp b hb).elim (q5 h b) id) q6
    · refine sel_f (by simp; intro h; exact e (UInt8.toNat.inj (by simpa using h))) (k (some a) c l hr hc (Nat.le_refl _) (fun h => absurd (h _ (List.getElem_mem hlt)) e) (fun h => absurd h hne) (fun h => by rw [elast]; exact e))
theorem trimR_ok {w : World} {A : Option Addr} {n c : Nat} {l : List UInt8} (hr : Go.Dn.RB w A l) (hn : n = l.length) (hc : l.length ≤ c) (hl : l.length ≤ 140737488355328) :
    Calls Tryd.prog 95 #[.slice A n c, .int .u8 0] w fun e w' => (∃ A' c' l', e = .returned (.slice A' l'.length c') ∧ Go.Dn.RB w A' l' ∧ l'.length ≤ c' ∧ l'.length ≤ l.length ∧ (l' = [] ↔ ∀ b ∈ l, b = 0) ∧ (∀ h : l' ≠ [], l'.getLast h ≠ 0)) ∧ w' = w := by
  subst hn
  apply f_bytes_trimRightByte.ok
  unfold f_bytes_trimRightByte.wp
  refine ⟨_, trimR_l0 _ l.length A c l rfl hc hl hr fun A' c' l' q1 q2 q3 q4 q5 q6 _ => ⟨⟨A', c', l', rfl, q1, q2, q3, ⟨q5, q4⟩, q6⟩, rfl⟩⟩
theorem trimL_l0 {w : World} (K0 : Option Addr → Nat → Nat → World → Prop) : ∀ (m : Nat) (A : Option Addr) (c : Nat) (l : List UInt8), l.length = m → l.length ≤ c → l.length ≤ 140737488355328 → Go.Dn.RB w A l →
    (∀ A' n' c', (n' = 0 ↔ ∀ b ∈ l, b = 0) → K0 A' n' c' w) → f_bytes_trimLeftByte.l0 (m + 1) A l.length c 0 w K0 := by
  intro m
  induction m with
  | zero =>
    intro A c l hm hc hl hr k
    have : l = [] := List.length_eq_zero_iff.1 hm
    subst this
    unfold f_bytes_trimLeftByte.l0
    exact sel_f (by simp) (k A 0 c ⟨fun _ b hb => (by cases hb), fun _ => rfl⟩)
  | succ m ih =>
    intro A c l hm hc hl hr k
    cases l with
    | nil => cases hm
    | cons b0 l =>
      obtain ⟨a, rfl, q⟩ := hr 0 (by simp)
      unfold f_bytes_trimLeftByte.l0
      refine sel_t (by simp) (optB_some rfl (req_intro (by simp) (ldI_intro (x := (b0.toNat : Int)) (by simpa [byteV] using q) ?_)))
      by_cases e : b0 = 0
      · refine sel_t (by rw [e]; rfl) (req_intro (by simp; omega) ?_)
        have hd := RB.slA hr hc 1
        rw [show (b0 :: l).length - 1 = l.length by simp]
        refine ih (slA (some a) 1 c 1) (c - 1) l (by simpa using hm) (by simp at hc; omega) (by simp at hl; omega) hd fun A' n' c' h => k A' n' c' (h.trans ?_)
        constructor
        · intro h b hb
          rcases List.mem_cons.1 hb with rfl | hb
          · exact e
          · exact h b hb
        · intro h b hb
          exact h b (List.mem_cons_of_mem _ hb)
      · refine sel_f (by simp; intro h; exact e (UInt8.toNat.inj (by simpa using h))) (k _ _ _ ⟨fun h => by simp at h, fun h => absurd (h b0 (by simp)) e⟩)
theorem trimL_ok {w : World} {A : Option Addr} {n c : Nat} {l : List UInt8} (hr : Go.Dn.RB w A l) (hn : n = l.length) (hc : l.length ≤ c) (hl : l.length ≤ 140737488355328) :
    Calls Tryd.prog 94 #[.slice A n c, .int .u8 0] w fun e w' => (∃ A' n' c', e = .returned (.slice A' n' c') ∧ (n' = 0 ↔ ∀ b ∈ l, b = 0)) ∧ w' = w := by
  subst hn
  apply f_bytes_trimLeftByte.ok
  unfold f_bytes_trimLeftByte.wp
  refine ⟨_, trimL_l0 _ l.length A c l rfl hc hl hr fun A' n' c' q _ => ?_⟩
  by_cases h0 : n' = 0
  · exact sel_t (by simp [h0]) ⟨⟨none, 0, 0, rfl, by rw [← q]; simp [h0]⟩, rfl⟩
  · exact sel_f (by simpa using h0) ⟨⟨A', n', c', rfl, q⟩, rfl⟩
theorem Trim_ok {w : World} {A : Option Addr} {n c : Nat} {l : List UInt8} (hr : Go.Dn.RB w A l) (hn : n = l.length) (hc : l.length ≤ c) (hl : l.length ≤ 140737488355328) :
    Calls Tryd.prog 83 #[.slice A n c, .string ⟨#[0]⟩] w fun e w' => (∃ A' n' c', e = .returned (.slice A' n' c') ∧ (n' = 0 ↔ ∀ b ∈ l, b = 0)) ∧ Below w.heap.size w w' := by
  subst hn
  apply f_bytes_Trim.ok
  unfold f_bytes_Trim.wp
  by_cases h0 : l.length = 0
  · have : l = [] := List.length_eq_zero_iff.1 h0
    subst this
    exact sel_t (by simp) ⟨⟨none, 0, 0, rfl, ⟨fun _ b hb => (by cases hb), fun _ => rfl⟩⟩, Below.refl _ _⟩
  refine sel_f (by simp; exact fun h => h0 (by rw [h]; rfl)) (sel_f (by decide +kernel) (sel_t (by decide) (req_intro (by decide) (sel_t (by decide) (drW_intro (req_intro (by decide) (req_intro (by decide) ?_)))))))
  have gd := (Below.refl w.heap.size w).drew
  refine (trimR_ok (hr.below gd (Nat.le_refl _)) rfl hc hl).mono ?_
  rintro _ _ ⟨⟨A1, c1, l1, rfl, r1, k1, s1, e1, q6⟩, rfl⟩
  refine ⟨_, _, _, rfl, ?_⟩
  refine (trimL_ok r1 rfl k1 (by omega)).mono ?_
  rintro _ _ ⟨⟨A2, n2, c2, rfl, e2⟩, rfl⟩
  refine ⟨_, _, _, rfl, ⟨A2, n2, c2, rfl, ?_⟩, gd⟩
  rw [e2]
  constructor
  · intro h
    refine e1.1 (Classical.byContradiction fun hne => q6 hne (h _ (List.getLast_mem hne)))
  · intro h
    rw [e1.2 h]
    exact fun b hb => (by cases hb)
end Go.Proofs.YtpokaafedpnbdaaDoor.Rd

/-! Code behind a range over a function: its reading, under the mark. Conditions: none. -/
namespace Go.Dn
theorem act_of {n : Nat} {l : List Value} (hl : l.length = n) (ds : List Deferred) : ({ tmps := ⟨l⟩, defers := ds } : Act) = act ds n (argsF l) := by
  unfold act
  congr 1
  apply Array.ext
  · simp [hl]
  · intro i h1 h2
    have hi : i < l.length := by simpa using h1
    simp [argsF, List.getD_eq_getElem?_getD, hi]
/-- what is asked at the ends of the code behind the loop -/
def rfQ (P : Program) (hT : Hint) (n : Nat) (rs : List ResultVar) (D : Nat) (R : Ending → World → Prop) : PQ := fun e σ w => match e with
  | .normal => w.heap[D]? = some (.deferred (some [])) ∧ resGo P hT n σ (w.putObj D (.deferred none)) rs fun vs => R (.returned (packV vs)) (w.putObj D (.deferred none))
  | .ret => w.heap[D]? = some (.deferred (some [])) ∧ resGo P hT n σ (w.putObj D (.deferred none)) rs fun vs => R (.returned (packV vs)) (w.putObj D (.deferred none))
  | _ => False
theorem post_wp {P : Program} {hT : Hint} {n m D : Nat} {c : Code} {T : Spec} {fn : Func} {rs : List ResultVar} {l : List Value} {W : World} {R : Ending → World → Prop} (hs : Snd P n c T) (hl : l.length = n) (hrs : fn.results = ⟨rs⟩)
    (h : T (rfQ P hT n rs D R) (argsF l) W) : c.wpIn Fence.wide m P (bodyPostM Fence.wide m P fn R) { tmps := ⟨l⟩, defers := [{ target := .collected D, args := #[] }] } W := by
  rw [act_of hl]
  refine wpIn_wide.2 (wp_mono (hs _ _ _ _ h) ?_)
  intro ex a w' hq
  have fin : ∀ σ, w'.heap[D]? = some (.deferred (some [])) → resGo P hT n σ (w'.putObj D (.deferred none)) rs (fun vs => R (.returned (packV vs)) (w'.putObj D (.deferred none))) →
      LeavesInM Fence.wide m P fn (act [{ target := .collected D, args := #[] }] n σ).tmps R [{ target := .collected D, args := #[] }] .returning w' := by
    intro σ hK hr
    obtain ⟨vs, hr, hk⟩ := results_sound (ds := [{ target := .collected D, args := #[] }]) hrs hr
    exact ⟨by simp, .inl ⟨_, _, rfl, run_takeDeferred hK, ⟨_, hr, hk⟩⟩⟩
  cases ex <;> simp only [liftQ] at hq
  case normal => obtain ⟨σ, rfl, hK, hr⟩ := hq; exact fin σ hK hr
  case ret => obtain ⟨σ, rfl, hK, hr⟩ := hq; exact fin σ hK hr
  case exit => obtain ⟨σ, rfl, hq⟩ := hq; exact hq.elim
  case goto => obtain ⟨σ, rfl, hq⟩ := hq; exact hq.elim
theorem below_put {B D : Nat} (W : World) (o : Obj) (h : B ≤ D) : Go.RowKit.Below B W (W.putObj D o) := ⟨rfl, rfl, rfl, by simp [World.putObj], fun k hk => World.putObj_heap_other (by omega)⟩
theorem gSlice_i {v : Value} {A : Option Addr} {n c : Nat} {K : Option Addr → Nat → Nat → Prop} (h : v = .slice A n c) (k : K A n c) : gSlice v K := by subst h; exact k
theorem gAd_i {v : Value} {a : Addr} {K : Addr → Prop} (h : v = .pointer (some a)) (k : K a) : gAd v K := by subst h; exact k
theorem gInt_i {v : Value} {k : IntKind} {x : Int} {K : Int → Prop} (h : v = .int k x) (q : K x) : gInt k v K := by subst h; unfold gInt; simpa [req] using q
/-- a loop's body by its printed reading: what is asked at its ends is asked of the world alone -/
theorem piece_wp {P : Program} {n m : Nat} {c : Code} {T : Spec} {l : List Value} {W : World} {G : Exit → Act → World → Prop} (hs : Snd P n c T) (hl : l.length = n) (h : T (fun e _ w => ∀ a, G e a w) (argsF l) W) :
    c.wpIn Fence.wide m P G { tmps := ⟨l⟩, defers := [] } W := by
  rw [act_of hl]
  refine wpIn_wide.2 (wp_mono (hs _ _ _ _ h) ?_)
  intro ex a w' hq
  cases ex <;> simp only [liftQ] at hq
  all_goals first
    | exact hq.elim
    | (obtain ⟨_, _, hq⟩ := hq; exact hq _)
/-- 'return' alone, under the mark -/
theorem ret_snd {P : Program} {n : Nat} : Snd P n .ret (fun Q σ w => Q .ret σ w) := fun ds Q σ w h => wp_ret ⟨σ, rfl, h⟩
end Go.Dn

/-! wal.parse: what stands behind its loop. Conditions: none. -/
namespace Go.Proofs.YtpokaafedpnbdaaDoor.Rd
open Go.Dn Go.RowKit
set_option linter.unusedVariables false
set_option linter.unusedSimpArgs false
/-- the length that two bytes tell -/
def lenP (d : List UInt8) : Nat := (bAt d 8).toNat + 256 * (bAt d 9).toNat
/-- what a payload says whose first eight bytes come to U -/
def restP (U : Nat) (d : List UInt8) : Nat × List UInt8 × Bool :=
  if U < 1 ∨ 274877906944 < U ∨ 498 < lenP d then (0, [], false) else (U, (d.drop 10).take (lenP d), (d.drop (10 + lenP d)).all (· == 0))
theorem borP (x y : Nat) (hx : x < 256) (hy : y < 256) : bor .i64 (IntKind.i64.wrap (x : Int)) (IntKind.i64.wrap (IntKind.i64.wrap (y : Int) * 2 ^ 8)) = ((x + 256 * y : Nat) : Int) := by
  rw [w64_in (x := (x : Int)) (by omega), w64_in (x := (y : Int)) (by omega), show (y : Int) * 2 ^ 8 = ((y * 256 : Nat) : Int) by omega, w64_in (by omega)]
  show IntKind.i64.wrap (((BitVec.ofInt 64 ((x : Nat) : Int)) ||| BitVec.ofInt 64 ((y * 256 : Nat) : Int)).toNat : Int) = _
  rw [BitVec.toNat_or]
  have bvp : ∀ n : Nat, n < 18446744073709551616 → (BitVec.ofInt 64 (n : Int)).toNat = n := fun n h => by
    rw [BitVec.toNat_ofInt]; simp only [Nat.reducePow]; omega
  rw [bvp _ (by omega), bvp _ (by omega)]
  have e3 : x ||| y * 256 = x + 256 * y := by
    have := Nat.shiftLeft_add_eq_or_of_lt (i := 8) (b := x) (by omega) y
    rw [Nat.shiftLeft_eq, show (2 : Nat) ^ 8 = 256 from rfl] at this
    rw [Nat.or_comm]
    omega
  rw [e3, w64_in (by omega)]
theorem bAt_get {d : List UInt8} {j : Nat} (h : j < d.length) : bAt d j = d[j] := by
  unfold bAt
  rw [List.getD_eq_getElem?_getD, List.getElem?_eq_getElem h, Option.getD_some]
theorem parse_post {W : World} {g c1 B : Nat} {d : List UInt8} (hd : d.length = 508) (hc1 : 508 ≤ c1) {U : Nat} (hB : W.cell? ⟨B, 0, none⟩ = some (.int .u64 (U : Int))) (hg : ∀ j, j < 508 → W.cell? ⟨g, j, none⟩ = some (.int .u8 ((bAt d j).toNat : Int)))
    (hgs : g < W.heap.size) (hBs : B < W.heap.size) {K : Int → Option Addr → Nat → Nat → Bool → World → Prop}
    (hK : ∀ A c W', Below W.heap.size W W' → (restP U d).2.1.length ≤ c → Go.Dn.RB W' A (restP U d).2.1 → (∀ a, A = some a → a.block = g) → (A = none → c = 0) → K ((restP U d).1 : Int) A (restP U d).2.1.length c (restP U d).2.2 W') :
    f_wal_parse_Post.j0 (some ⟨g, 0, none⟩) 508 c1 ⟨B, 0, none⟩ W K := by
  have g0 := (Below.refl W.heap.size W).drew
  have cB : ∀ {W'}, Below W.heap.size W W' → W'.cell? ⟨B, 0, none⟩ = some (.int .u64 (U : Int)) := fun h => (h.cell (p := ⟨B, 0, none⟩) hBs).trans hB
  have cg : ∀ {W'}, Below W.heap.size W W' → ∀ j, j < 508 → W'.cell? ⟨g, j, none⟩ = some (.int .u8 ((bAt d j).toNat : Int)) := fun h j hj => (h.cell (p := ⟨g, j, none⟩) hgs).trans (hg j hj)
  unfold f_wal_parse_Post.j0
  refine drW_intro (optB_some rfl (req_intro (by decide) (ldI_intro (cg g0 8 (by decide)) (optB_some rfl (req_intro (by decide) (ldI_intro (cg g0 9 (by decide)) (ldI_intro (cB g0) ?_)))))))
  rw [borP _ _ (UInt8.toNat_lt _) (UInt8.toNat_lt _)]
  have bad : ∀ (W' : World), Below W.heap.size W W' → (U < 1 ∨ 274877906944 < U ∨ 498 < lenP d) → K 0 none 0 0 false W' := fun W' gw h => by
    have := hK none 0 W' gw
    unfold restP at this
    rw [if_pos h] at this
    exact this (Nat.le_refl _) (RB.nil _ _) (fun _ h => by cases h) (fun _ => rfl)
  by_cases h1 : U < 1
  · exact sel_t (by simp; omega) (bad _ g0 (.inl h1))
  refine sel_f (by simp; omega) (ldI_intro (cB g0) ?_)
  by_cases h2 : 274877906944 < U
  · exact sel_t (by simp; omega) (bad _ g0 (.inr (.inl h2)))
  refine sel_f (by simp; omega) ?_
  by_cases h3 : 498 < lenP d
  · exact sel_t (by unfold lenP at h3; simp; omega) (bad _ g0 (.inr (.inr h3)))
  have hn : lenP d ≤ 498 := by omega
  have eL : ((bAt d 8).toNat + 256 * (bAt d 9).toNat : Nat) = lenP d := rfl
  rw [eL]
  have ew : IntKind.i64.wrap ((10 : Int) + (lenP d : Nat)) = ((10 + lenP d : Nat) : Int) := by rw [w64_in (by omega)]; omega
  rw [ew, Int.toNat_natCast]
  refine sel_f (by simp; omega) (req_intro (by simp; omega) (req_intro (by simp; omega) (drW_intro ⟨fun W' => Below W.heap.size W W', g0.drew, ?_⟩)))
  refine ⟨_, fun w' hw => cB hw, req_intro (by simp; omega) ?_⟩
  have hr : Go.Dn.RB W.drew.drew (slA (some ⟨g, 0, none⟩) (10 + lenP d) c1 1) (d.drop (10 + lenP d)) := by
    unfold slA
    split
    · rename_i h
      have : d.drop (10 + lenP d) = [] := List.drop_eq_nil_of_le (by omega)
      rw [this]; exact RB.nil _ _
    · intro i hi
      rw [List.length_drop] at hi
      refine ⟨_, rfl, ?_⟩
      have := cg (g0.drew) (10 + lenP d + i) (by omega)
      rw [bAt_get (by omega)] at this
      rw [List.getElem_drop]
      dsimp only
      rw [add_mk, add_mk, Nat.zero_add, Nat.mul_one]
      exact this
  have hl : (d.drop (10 + lenP d)).length = 508 - (10 + lenP d) := by rw [List.length_drop, hd]
  refine (Trim_ok hr hl.symm (by rw [hl]; omega) (by rw [hl]; omega)).mono ?_
  rintro _ W2 ⟨⟨A2, n2, c2, rfl, e2⟩, g2⟩
  have g3 : Below W.heap.size W W2 := Below.trans g0.drew (g2.mono g0.drew.size)
  refine ⟨_, _, _, rfl, g3, ?_⟩
  have eR : restP U d = (U, (d.drop 10).take (lenP d), (d.drop (10 + lenP d)).all (· == 0)) := by
    unfold restP; rw [if_neg (by omega)]
  have hl2 : ((d.drop 10).take (lenP d)).length = lenP d := by rw [List.length_take, List.length_drop]; omega
  have := hK (slA (some ⟨g, 0, none⟩) 10 c1 1) (c1 - 10) W2 g3 (by rw [eR]; show ((d.drop 10).take (lenP d)).length ≤ _; omega) ?_ ?_ (fun h => by unfold slA at h; rw [if_neg (by omega)] at h; cases h)
  · rw [eR] at this
    simp only [] at this
    rw [hl2] at this
    have eb : ((n2 : Int) == (0 : Int)) = (d.drop (10 + lenP d)).all (· == 0) := by
      by_cases h : n2 = 0
      · rw [h, List.all_eq_true.2 fun b hb => by simpa using e2.1 h b hb]; rfl
      · have : ¬ ∀ b ∈ d.drop (10 + lenP d), b = 0 := fun q => h (e2.2 q)
        have e3 : (d.drop (10 + lenP d)).all (· == 0) = false := by
          cases hq : (d.drop (10 + lenP d)).all (· == 0) with
          | false => rfl
          | true => exact absurd (fun b hb => by simpa using List.all_eq_true.1 hq b hb) this
        rw [e3]
        simpa using h
    rw [eb, w64_in (by omega), show 10 + lenP d - 10 = lenP d by omega]
    exact this
  · rw [eR]
    unfold slA
    rw [if_neg (by omega)]
    intro i hi
    have hi' : i < lenP d := by simp only [] at hi; omega
    refine ⟨_, rfl, ?_⟩
    have := cg g3 (10 + i) (by omega)
    rw [bAt_get (by omega)] at this
    simp only [List.getElem_take, List.getElem_drop]
    show W2.cell? (((⟨g, 0, none⟩ : Addr).add (10 * 1)).add i) = _
    rw [add_mk, add_mk, Nat.zero_add, Nat.mul_one]
    exact this
  · intro a ha
    unfold slA at ha
    rw [if_neg (by omega)] at ha
    cases ha
    rfl
end Go.Proofs.YtpokaafedpnbdaaDoor.Rd

/-! wal.parse: a log sector read. Conditions: none. -/
namespace Go.Proofs.YtpokaafedpnbdaaDoor.Rd
open Go.RowKit Go.Shelf Go.Dn
attribute [local go_sem] Oper.semAt_some
set_option linter.unusedVariables false
set_option linter.unusedSimpArgs false
theorem openL_t {l : List UInt8} (h : (openL l).2 = true) : (openL l).1 = l.drop 4 ∧ 4 ≤ l.length := by
  unfold openL at h ⊢
  by_cases h4 : 4 ≤ l.length
  · rw [if_pos h4] at h ⊢
    by_cases e : l.take 4 = le4 (crcSum (l.drop 4))
    · rw [if_pos e]; exact ⟨rfl, h4⟩
    · rw [if_neg e] at h; cases h
  · rw [if_neg h4] at h; cases h
theorem openL_f {l : List UInt8} (h : (openL l).2 = false) : (openL l).1 = [] := by
  unfold openL at h ⊢
  by_cases h4 : 4 ≤ l.length
  · rw [if_pos h4] at h ⊢
    by_cases e : l.take 4 = le4 (crcSum (l.drop 4))
    · rw [if_pos e] at h; cases h
    · rw [if_neg e]
  · rw [if_neg h4]
theorem open_t (n : Nat) {A : Option Addr} {len cap : Nat} {w : World} {l : List UInt8} (hr : Go.Dn.RB w A l) (hn : len = l.length) (hl : l.length = 512) (hc : l.length ≤ cap) (h : (openL l).2 = true) :
    CallsIn Fence.wide n Tryd.prog 81 #[.slice A len cap] w fun e w' => ∃ g c', e = .returned (.tuple #[.slice (some ⟨g, 0, none⟩) 508 c', .bool true]) ∧ w.heap.size ≤ g ∧ g < w'.heap.size ∧ 508 ≤ c' ∧ (∀ j, j < 508 → w'.cell? ⟨g, j, none⟩ = some (.int .u8 ((bAt (l.drop 4) j).toNat : Int))) ∧ Below w.heap.size w w' := by
  refine callsIn_wide.2 ((Open_ok hr hn (by omega) hc).mono ?_)
  rintro _ w1 ⟨A1, c1, rfl, o1, n1, g1⟩
  obtain ⟨e1, _⟩ := openL_t h
  have hl1 : (openL l).1.length = 508 := by rw [e1, List.length_drop]; omega
  have hr1 := o1.reads
  obtain ⟨_, h2⟩ := o1
  rcases h2 with ⟨_, h0⟩ | ⟨g, cp, cur, hv, hg, hh, hn, hm, hs, ht⟩
  · omega
  injection hv with hA _ hcc
  subst hA
  rw [h, hl1]
  refine ⟨g, c1, rfl, hg, (Array.getElem?_eq_some_iff.1 hh).1, by omega, fun j hj => ?_, g1⟩
  obtain ⟨a, ha, hc⟩ := hr1 j (by omega)
  injection ha with ha; subst ha
  rw [add_mk, Nat.zero_add] at hc
  rw [hc]
  unfold byteV bAt
  have : (openL l).1[j]'(by omega) = (l.drop 4).getD j 0 := by
    rw [List.getD_eq_getElem?_getD]
    have : j < (l.drop 4).length := by rw [List.length_drop]; omega
    rw [List.getElem?_eq_getElem this, Option.getD_some]
    congr 1
  rw [this]
theorem open_f (n : Nat) {A : Option Addr} {len cap : Nat} {w : World} {l : List UInt8} (hr : Go.Dn.RB w A l) (hn : len = l.length) (hl : l.length = 512) (hc : l.length ≤ cap) (h : (openL l).2 = false) :
    CallsIn Fence.wide n Tryd.prog 81 #[.slice A len cap] w fun e w' => ∃ A1 c', e = .returned (.tuple #[.slice A1 0 c', .bool false]) ∧ Below w.heap.size w w' := by
  refine callsIn_wide.2 ((Open_ok hr hn (by omega) hc).mono ?_)
  rintro _ w1 ⟨A1, c1, rfl, o1, n1, g1⟩
  rw [openL_f h, h]
  exact ⟨A1, c1, rfl, g1⟩
theorem backB_call (n : Nat) (A : Option Addr) (len cap : Nat) (w : World) :
    CallsIn Fence.wide n Tryd.prog 82 #[.slice A len cap] w fun e w' => e = .returned (.func (.func 93) #[] #[.pointer (some ⟨w.heap.size, 0, none⟩)]) ∧ w' = w.alloc (.cells #[.slice A len cap] 29) := by
  refine callsIn_wide.2 ?_
  apply f_slices_Backward_byte_byte_Back.ok
  unfold f_slices_Backward_byte_byte_Back.wp
  exact alW_intro ⟨rfl, rfl⟩
set_option maxRecDepth 100000 in
set_option maxHeartbeats 8000000 in
theorem parse_f {w : World} {A : Option Addr} {cap : Nat} {l : List UInt8} (hr : Go.Dn.RB w A l) (hl : l.length = 512) (hc : 512 ≤ cap) (ho : (openL l).2 = false) :
    CallsIn Fence.wide 9 Tryd.prog 66 #[.slice A 512 cap] w fun e w' => e = .returned (.tuple #[.int .i64 0, .slice none 0 0, .bool false]) ∧ Below w.heap.size w w' := by
  refine callsIn_of_wp_marks Tryd.func66 rfl trivial ?_ rfl
  simp only [Tryd.ntmps66, List.size_toArray, List.length_cons, List.length_nil, Nat.reduceAdd, Nat.reduceSub, Array.replicate_succ, Array.replicate_zero, List.push_toArray, List.append_toArray, List.nil_append, List.cons_append]
  gi_wp2_with (first | (refine ⟨trivial, ?_⟩; refine (open_f _ hr hl.symm hl (by omega) ho).mono ?_; rintro e w1 ⟨A1, c1, rfl, g1⟩) | gi_in)
  exact ⟨_, results_tmp3 rfl _ _ _, rfl, g1⟩
/-- what stands between two rounds -/
def valS (l : List UInt8) : Nat := l.foldl (fun u b => u * 256 + b.toNat) 0
def stP (w1 : World) (pre : List (Nat × UInt8)) (W : World) : Prop :=
  Boxed W w1.heap.size 92 (.int .u64 (valS (pre.map (·.2)) : Int)) ∧ Below w1.heap.size w1 W ∧ w1.heap.size + 2 ≤ W.heap.size
theorem valS_lt (l : List UInt8) : valS l < 256 ^ l.length := by
  suffices h : ∀ (l : List UInt8) (u : Nat), l.foldl (fun u b => u * 256 + b.toNat) u < (u + 1) * 256 ^ l.length by
    have := h l 0; simpa [valS] using this
  intro l
  induction l with
  | nil => intro u; simp
  | cons b l ih =>
    intro u
    have := ih (u * 256 + b.toNat)
    have hb := b.toNat_lt
    rw [List.foldl_cons, List.length_cons, Nat.pow_succ]
    refine Nat.lt_of_lt_of_le this ?_
    have : (u * 256 + b.toNat + 1) * 256 ^ l.length ≤ (u + 1) * 256 * 256 ^ l.length := Nat.mul_le_mul_right _ (by omega)
    rw [Nat.mul_assoc] at this
    rw [Nat.mul_comm (256 ^ l.length) 256]
    exact this
theorem valS_snoc (l : List UInt8) (b : UInt8) : valS (l ++ [b]) = valS l * 256 + b.toNat := by simp [valS]
theorem or_byte (u : Nat) (b : UInt8) (h : u < 72057594037927936) : bits BinOp.or IntKind.u64 (IntKind.u64.wrap ((u : Int) * 256)) (IntKind.u64.wrap (b.toNat : Int)) = ((u * 256 + b.toNat : Nat) : Int) := by
  have hb := b.toNat_lt
  rw [u64w, u64w]
  have e1 : ((u : Int) * 256) % 18446744073709551616 = ((u * 256 : Nat) : Int) := by omega
  have e2 : ((b.toNat : Int)) % 18446744073709551616 = ((b.toNat : Nat) : Int) := by omega
  rw [e1, e2]
  show IntKind.u64.wrap (((BitVec.ofInt 64 ((u * 256 : Nat) : Int)) ||| BitVec.ofInt 64 ((b.toNat : Nat) : Int)).toNat : Int) = _
  rw [BitVec.toNat_or, bv64 _ (by omega), bv64 _ (by omega), u64w]
  have e3 : u * 256 ||| b.toNat = u * 256 + b.toNat := by
    have := Nat.shiftLeft_add_eq_or_of_lt (i := 8) (b := b.toNat) (by omega) u
    rw [Nat.shiftLeft_eq] at this
    exact this.symm
  rw [e3]
  omega
theorem ne_rowP {W : World} {b N : Nat} {cs : Array Value} {t : TypeId} {row : Option Nat} (h : W.heap[b]? = some (.cells cs t)) (hr : ∀ r, row = some r → N ≤ r ∧ ∃ o : Obj, W.heap[r]? = some o ∧ o.isCells = false) : some b ≠ row := fun e => by
  obtain ⟨_, o, ho, hc⟩ := hr b e.symm
  rw [h] at ho; cases ho; cases hc
theorem stP_own {w1 : World} {N : Nat} (hN : w1.heap.size ≤ N) : OwnFrom N (stP w1) := by
  rintro pre X Y row ⟨b1, b2, b3⟩ hg hr
  have hrow : ∀ b, b < w1.heap.size → some b ≠ row := fun b hb e => by have := (hr b e.symm).1; omega
  refine ⟨b1.kept hg (ne_rowP b1 hr), ⟨hg.os.trans b2.os, hg.tape.trans b2.tape, hg.output.trans b2.output, Nat.le_trans b2.size hg.size, fun k hk => (hg.block k (Nat.lt_of_lt_of_le hk b2.size) (hrow k hk)).trans (b2.block k hk)⟩, Nat.le_trans b3 hg.size⟩
/-- what a sector of the log says -/
def parseL (l : List UInt8) : Nat × List UInt8 × Bool :=
  if (openL l).2 then restP (valS ((l.drop 4).take 8).reverse) (l.drop 4) else (0, [], false)
theorem upto_bkB (fs : List UInt8) : (upto (bkB fs) fs.length).map (·.2) = fs.reverse := by
  apply List.ext_getElem
  · simp [upto_length]
  · intro i h1 h2
    simp only [upto, List.getElem_map, List.getElem_range, bkB, List.getElem_reverse]
    rw [bAt_get]
set_option maxRecDepth 100000 in
set_option maxHeartbeats 8000000 in
theorem parse_t {w : World} {A : Option Addr} {cap : Nat} {l : List UInt8} (hr : Go.Dn.RB w A l) (hl : l.length = 512) (hc : 512 ≤ cap) (ho : (openL l).2 = true) :
    CallsIn Fence.wide 9 Tryd.prog 66 #[.slice A 512 cap] w fun e w' => ∃ A' c', e = .returned (.tuple #[.int .i64 ((parseL l).1 : Int), .slice A' (parseL l).2.1.length c', .bool (parseL l).2.2]) ∧
      (parseL l).2.1.length ≤ c' ∧ Go.Dn.RB w' A' (parseL l).2.1 ∧ (∀ a, A' = some a → w.heap.size ≤ a.block) ∧ (A' = none → c' = 0) ∧ Below w.heap.size w w' := by
  refine callsIn_of_wp_marks Tryd.func66 rfl trivial ?_ rfl
  simp only [Tryd.ntmps66, List.size_toArray, List.length_cons, List.length_nil, Nat.reduceAdd, Nat.reduceSub, Array.replicate_succ, Array.replicate_zero, List.push_toArray, List.append_toArray, List.nil_append, List.cons_append]
  gi_wp2_with (first | (refine ⟨trivial, ?_⟩; refine (open_t _ hr hl.symm hl (by omega) ho).mono ?_; rintro e w1 ⟨g, c1, rfl, hg, hg2, hc1, hb, g1⟩) | (refine ⟨trivial, ?_⟩; refine (backB_call _ _ _ _ _).mono ?_; rintro e w' ⟨rfl, rfl⟩) | gi_in)
  obtain ⟨W0, hW0⟩ : ∃ W0, ((w1.alloc (.cells #[.int .u64 0] 92)).alloc (.cells #[.slice (some ⟨g, 0, none⟩) 8 c1] 29)) = W0 := ⟨_, rfl⟩
  have bK : Boxed W0 w1.heap.size 92 (.int .u64 0) := by rw [← hW0]; exact (Boxed.new w1 92 (.int .u64 0)).alloc _
  have bS : Boxed W0 (w1.heap.size + 1) 29 (.slice (some ⟨g, 0, none⟩) 8 c1) := by
    have := Boxed.new (w1.alloc (.cells #[.int .u64 0] 92)) 29 (.slice (some ⟨g, 0, none⟩) 8 c1)
    rw [World.size_alloc, hW0] at this
    exact this
  have hsz : W0.heap.size = w1.heap.size + 2 := by rw [← hW0]; simp
  have gW : Below w1.heap.size w1 W0 := by rw [← hW0]; exact ((Below.refl _ _).alloc (Nat.le_refl _) _).alloc (by simp) _
  rw [hW0]
  have hfs : ((l.drop 4).take 8).length = 8 := by rw [List.length_take, List.length_drop]; omega
  have bat : ∀ j, j < 8 → bAt ((l.drop 4).take 8) j = bAt (l.drop 4) j := fun j hj => by
    unfold bAt; rw [List.getD_eq_getElem?_getD, List.getD_eq_getElem?_getD, List.getElem?_take, if_pos hj]
  have hby : Byts (w1.heap.size + 2) w1.heap.size W0 (some ⟨g, 0, none⟩) ((l.drop 4).take 8) := ⟨g, 0, rfl, by omega, by omega, fun j hj => by
    rw [hfs] at hj
    rw [Nat.zero_add, bat j hj]
    exact (gW.cell (p := ⟨g, j, none⟩) hg2).trans (hb j (by omega))⟩
  refine wpIn_rangeFunc_ownH (F := Fence.wide) rfl (by omega) (gf := 93) (lb := #[.pointer (some ⟨w1.heap.size + 1, 0, none⟩)]) rfl trivial (enters_of Tryd.func93 (by kernel_rfl) rfl)
    (backB_stops Fence.wide 8 trivial rfl (by omega) (w1.heap.size + 1) (w1.heap.size + 2) w1.heap.size (some ⟨g, 0, none⟩) c1 ((l.drop 4).take 8) (by omega) W0 (by omega) (by omega) (by omega) (by rw [hfs]; exact bS.cell) hby) (fun h k => h.trans k) (fun W l o o' hl _ _ _ => KpX.put W l o' (by omega)) (Below.refl _ _) (fun _ => rfl)
    (stP w1)
    (fun _ _ _ => False)
    ?own (fun _ _ _ _ _ hs _ _ => hs) ⟨bK, gW, by omega⟩
    (fun x a' W => a' = { tmps := #[.slice A 512 cap, undef, .int .i64 0, .slice none 0 0, .bool true, .slice (some ⟨g, 0, none⟩) 508 c1, .pointer (some ⟨w1.heap.size, 0, none⟩), undef, .int .u8 (x.2.toNat : Int), undef, .tuple #[.slice (some ⟨g, 0, none⟩) 508 c1, .bool true], .slice A 512 cap, .tuple #[.slice (some ⟨g, 0, none⟩) 508 c1, .bool true], .slice (some ⟨g, 0, none⟩) 508 c1, .bool true, .bool true, .bool false, .slice (some ⟨g, 0, none⟩) 508 c1, .slice (some ⟨g, 0, none⟩) 8 c1, .func (.func 93) #[] #[.pointer (some ⟨w1.heap.size + 1, 0, none⟩)], .int .i64 (x.1 : Int), .int .u8 (x.2.toNat : Int), undef, undef, undef, undef, undef, undef, undef, undef, undef, undef, undef, undef, undef, undef, undef, undef, undef, undef, undef, undef, undef, undef, undef, undef, undef, undef, undef, undef, undef, undef, undef, undef, undef, undef, undef, undef, undef, undef, undef], defers := [] })
    ?ownA ?assign ?body ?done ?stop
  case own => exact stP_own (by omega)
  case ownA => rintro x a' _ X Y row h hg hr; exact h
  case assign =>
    rintro l pre x W K hS hK
    gi_wp2
    exact hK _ _ (KeepsFrom.refl _ _) (KpX.refl _ _ _) hS rfl
  case body =>
    rintro l pre x a' W hl ⟨r, hr⟩ ⟨b1, b2, b3⟩ rfl hlt
    have cK := b1.cell
    have fK := b1.frozen
    have hv : valS (pre.map (·.2)) < 72057594037927936 := by
      have h1 := valS_lt (pre.map (·.2))
      rw [List.length_map] at h1
      have h2 : 256 ^ pre.length ≤ 256 ^ 7 := Nat.pow_le_pow_right (by decide) (by rw [hfs] at hlt; omega)
      exact Nat.lt_of_lt_of_le h1 h2
    have hval : bits BinOp.or IntKind.u64 ((valS (pre.map (·.2)) : Int) * 256) (IntKind.u64.wrap (x.2.toNat : Int)) = (valS ((pre ++ [x]).map (·.2)) : Int) := by
      rw [List.map_append, List.map_cons, List.map_nil, valS_snoc, ← or_byte _ _ hv]
      congr 1
      rw [u64w]
      omega
    gi_wp2
    refine ⟨(KeepsOthers.setCell _ _ _).from _, KpX.set _ _ _, ?_, b2.setCell (by show w1.heap.size ≤ w1.heap.size; omega) _, by simpa using b3⟩
    rw [List.map_append]
    exact b1.set _
  case done =>
    rintro D' xs W hD' rfl ⟨b1, b2, b3⟩ hK
    have hD : D' ≠ w1.heap.size := by omega
    obtain ⟨U, hU⟩ : ∃ U, valS ((upto (bkB ((l.drop 4).take 8)) ((l.drop 4).take 8).length).map (·.2)) = U := ⟨_, rfl⟩
    rw [hU] at b1
    have cK := b1.cell
    have c8 : W.cell? ⟨g, 8, none⟩ = some (.int .u8 ((bAt (l.drop 4) 8).toNat : Int)) := (b2.cell (p := ⟨g, 8, none⟩) hg2).trans (hb 8 (by decide))
    have c9 : W.cell? ⟨g, 9, none⟩ = some (.int .u8 ((bAt (l.drop 4) 9).toNat : Int)) := (b2.cell (p := ⟨g, 9, none⟩) hg2).trans (hb 9 (by decide))
    have hmx : Tryd.prog.follows .mixedOrders = true := by kernel_rfl
    obtain ⟨n8, h8⟩ : ∃ n, (bAt (l.drop 4) 8).toNat = n := ⟨_, rfl⟩
    obtain ⟨n9, h9⟩ : ∃ n, (bAt (l.drop 4) 9).toNat = n := ⟨_, rfl⟩
    rw [h8] at c8
    rw [h9] at c9
    simp only [Exit.inBlock, Exit.then]
    rename_i K hKk
    refine hKk _ _ ?_
    refine post_wp (hT := hT) (f_wal_parse_Post.j0_snd _ (by kernel_rfl)) rfl rfl ?_
    unfold f_wal_parse_Post.j0T
    refine gSlice_i (A := some ⟨g, 0, none⟩) (n := 508) (c := c1) rfl (gAd_i (a := ⟨w1.heap.size, 0, none⟩) rfl ?_)
    have hbs : ∀ j, j < 508 → W.cell? ⟨g, j, none⟩ = some (.int .u8 ((bAt (l.drop 4) j).toNat : Int)) := fun j hj => (b2.cell (p := ⟨g, j, none⟩) hg2).trans (hb j hj)
    have hgs : g < W.heap.size := Nat.lt_of_lt_of_le hg2 b2.size
    have hKs : D' < W.heap.size := (Array.getElem?_eq_some_iff.1 hK).1
    refine parse_post (by rw [List.length_drop]; omega) hc1 cK hbs hgs (by omega) ?_
    rintro A' c' W' g2 hc2 hr2 ha2 hz2 d
    have hK' : W'.heap[D']? = some (.deferred (some [])) := (g2.block D' hKs).trans hK
    have ep : parseL l = restP U (l.drop 4) := by
      unfold parseL
      rw [if_pos ho, ← hU, upto_bkB]
    rw [← ep] at hc2 hr2 ⊢
    have hw1 := g1.size
    have hw2 := b2.size
    have hw3 := g2.size
    have gz : Below w.heap.size w W' := (g1.trans (b2.mono hw1)).trans (g2.mono (by omega))
    refine ⟨hK', A', c', rfl, hc2, ?_, fun a ha => by rw [ha2 a ha]; exact hg, hz2, gz.trans (below_put _ _ (by omega))⟩
    exact hr2.only (grownBy_putObj' W' D' (.deferred none)) fun a ha e => by rw [ha2 a ha] at e; injection e; omega
  case stop =>
    rintro D' c pre W _ _ h _
    exact h.elim
theorem parse_ok {w : World} {A : Option Addr} {cap : Nat} {l : List UInt8} (hr : Go.Dn.RB w A l) (hl : l.length = 512) (hc : 512 ≤ cap) :
    Calls Tryd.prog 66 #[.slice A 512 cap] w fun e w' => ∃ A' c', e = .returned (.tuple #[.int .i64 ((parseL l).1 : Int), .slice A' (parseL l).2.1.length c', .bool (parseL l).2.2]) ∧
      (parseL l).2.1.length ≤ c' ∧ Go.Dn.RB w' A' (parseL l).2.1 ∧ (∀ a, A' = some a → w.heap.size ≤ a.block) ∧ (A' = none → c' = 0) ∧ Below w.heap.size w w' := by
  cases ho : (openL l).2 with
  | true => exact callsIn_wide.1 (parse_t hr hl hc ho)
  | false =>
    refine (callsIn_wide.1 (parse_f hr hl hc ho)).mono ?_
    rintro _ w' ⟨rfl, g⟩
    have e : parseL l = (0, [], false) := by unfold parseL; rw [ho]; rfl
    rw [e]
    exact ⟨none, 0, rfl, Nat.le_refl _, RB.nil _ _, fun _ h => (by cases h), fun _ => rfl, g⟩
end Go.Proofs.YtpokaafedpnbdaaDoor.Rd
