/- The document's disk in memory: spots, rows of spots, has, put, settled, fate. Conditions: none. -/
import Derived.Test.YthekjlglnmhlaaaDlA
import Derived.Test.YthekjlglnmhlaaaDkP
namespace Go.Proofs.Ythekjlglnmhlaaa.Rd
open Go.Dn Go.RowKit Go.Shelf
set_option linter.unusedVariables false
set_option linter.unusedSimpArgs false
set_option maxRecDepth 100000
/-- a disk of the document, as a value -/
structure RV where
  A : Option Addr
  n : Nat
  c : Nat
  P : Option Addr
  pn : Nat
  pc : Nat
  st : Int
  off : Bool
def rvC (v : RV) : Array Value := #[.slice v.A v.n v.c, .slice v.P v.pn v.pc, .int .i64 v.st, .bool v.off]
/-- a spot: safe bytes s, pending ones p; none of its blocks is in N -/
structure SpR (w : World) (N : Nat → Prop) (m : SpM) (s : Sec) (p : Option Sec) : Prop where
  r : RB w m.A s.1
  n : m.n = 512
  a : ∀ a, m.A = some a → ¬ N a.block
  lo : m.lo = p.isSome
  r2 : ∀ t, p = some t → RB w m.A2 t.1 ∧ m.n2 = 512 ∧ ∀ a, m.A2 = some a → ¬ N a.block
section
variable {w w' : World} {N S : Nat → Prop} {m : SpM} {s : Sec} {p : Option Sec} {d : Dk} {v : RV}
theorem SpR.keeps (h : SpR w N m s p) (k : Keeps S w w') (hS : ∀ k, S k → N k) : SpR w' N m s p :=
  ⟨h.r.keeps k fun a ha hs => h.a a ha (hS _ hs), h.n, h.a, h.lo, fun t ht => by
    obtain ⟨h1, h2, h3⟩ := h.r2 t ht
    exact ⟨h1.keeps k fun a ha hs => h3 a ha (hS _ hs), h2, h3⟩⟩
theorem SpR.belw (h : SpR w N m s p) (k : Below w.heap.size w w') : SpR w' N m s p := h.keeps (S := fun _ => False) (.of_below k) fun _ => False.elim
theorem rb_blk {A : Option Addr} {l : List Int} (h : RB w A l) (h0 : 0 < l.length) {a : Addr} (ha : A = some a) : a.block < w.heap.size := by
  obtain ⟨a', e, hc⟩ := h 0 h0
  rw [ha] at e; injection e with e; subst e
  have := World.block_lt_of_cell? w _ hc
  rw [add_block] at this; exact this
/-- other blocks to keep out of, the fresh ones aside -/
theorem SpR.out {N' : Nat → Prop} (h : SpR w N m s p) (hN : ∀ k, k < w.heap.size → N' k → N k) : SpR w N' m s p :=
  ⟨h.r, h.n, fun a ha hn => h.a a ha (hN _ (rb_blk h.r (by rw [s.2]; decide) ha) hn), h.lo, fun t ht => by
    obtain ⟨h1, h2, h3⟩ := h.r2 t ht
    exact ⟨h1, h2, fun a ha hn => h3 a ha (hN _ (rb_blk h1 (by rw [t.2]; decide) ha) hn)⟩⟩
theorem SpR.weak {N' : Nat → Prop} (h : SpR w N m s p) (hN : ∀ k, N' k → N k) : SpR w N' m s p := h.out fun k _ => hN k
/-- the row of spots -/
def RMs (w : World) (N : Nat → Prop) (A : Option Addr) (d : Dk) : Prop :=
  ∃ ms : List SpM, RowE eSp 3 w A ms ∧ ms.length = d.safe.length ∧ (ms ≠ [] → ∀ a, A = some a → ¬ N a.block) ∧ ∀ i (h : i < ms.length), SpR w N ms[i] (d.safe.getD i z0) (lk d.pend (i : Int))
theorem RMs.keeps {A : Option Addr} (h : RMs w N A d) (k : Keeps S w w') (hS : ∀ k, S k → N k) : RMs w' N A d := by
  obtain ⟨ms, h1, h2, h3, h4⟩ := h
  refine ⟨ms, ?_, h2, h3, fun i hi => (h4 i hi).keeps k hS⟩
  by_cases h0 : ms = []
  · subst h0; exact RowE.nil _ _ _ _
  · exact h1.keeps ESp k fun a ha hs => h3 h0 a ha (hS _ hs)
theorem RMs.belw {A : Option Addr} (h : RMs w N A d) (k : Below w.heap.size w w') : RMs w' N A d := h.keeps (S := fun _ => False) (.of_below k) fun _ => False.elim
theorem RMs.out {N' : Nat → Prop} {A : Option Addr} (h : RMs w N A d) (hN : ∀ k, k < w.heap.size → N' k → N k) : RMs w N' A d := by
  obtain ⟨ms, h1, h2, h3, h4⟩ := h
  refine ⟨ms, h1, h2, fun h0 a ha hn => h3 h0 a ha (hN _ ?_ hn), fun i hi => (h4 i hi).out hN⟩
  rw [ha] at h1
  exact h1.lt ESp (List.length_pos_iff.2 h0)
structure RM (w : World) (N : Nat → Prop) (v : RV) (d : Dk) : Prop where
  ms : RMs w N v.A d
  n : v.n = d.safe.length
  sl : d.safe.length ≤ 4096
  pl : RowE eF 2 w v.P d.plan
  pn : v.pn = d.plan.length
  pb : d.plan ≠ [] → ∀ a, v.P = some a → ¬ N a.block
  pz : d.plan.length * 16 ≤ 140737488355328
  st : v.st = d.steps
  off : v.off = d.off
theorem RM.keeps (h : RM w N v d) (k : Keeps S w w') (hS : ∀ k, S k → N k) : RM w' N v d := by
  refine ⟨h.ms.keeps k hS, h.n, h.sl, ?_, h.pn, h.pb, h.pz, h.st, h.off⟩
  by_cases h0 : d.plan = []
  · rw [h0]; exact RowE.nil _ _ _ _
  · exact h.pl.keeps EF k fun a ha hs => h.pb h0 a ha (hS _ hs)
theorem RM.belw (h : RM w N v d) (k : Below w.heap.size w w') : RM w' N v d := h.keeps (S := fun _ => False) (.of_below k) fun _ => False.elim
theorem RM.out {N' : Nat → Prop} (h : RM w N v d) (hN : ∀ k, k < w.heap.size → N' k → N k) : RM w N' v d := by
  refine ⟨h.ms.out hN, h.n, h.sl, h.pl, h.pn, fun h0 a ha hn => h.pb h0 a ha (hN _ ?_ hn), h.pz, h.st, h.off⟩
  have := h.pl
  rw [ha] at this
  exact this.lt EF (List.length_pos_iff.2 h0)
/-! ### a spot's bytes -/
theorem Rhas_ok (h : SpR w N m s p) : Calls Try.prog 57 #[.agg #[.slice m.A m.n m.c, .slice m.A2 m.n2 m.c2, .bool m.lo]] w fun e w' => ∃ A c, e = .returned (.slice A 512 c) ∧ RB w' A (p.getD s).1 ∧ (∀ a, A = some a → ¬ N a.block) ∧ Below w.heap.size w w' := by
  apply f_ref07_has.ok
  unfold f_ref07_has.wp
  refine al_new fun w1 b e1 s1 hb g1 => hb_ldB (j := 2) hb rfl ?_
  cases hp : p with
  | some t =>
    obtain ⟨h1, h2, h3⟩ := h.r2 t hp
    refine sel_t (by rw [h.lo, hp]; rfl) (hb_ldS (j := 1) hb rfl ⟨m.A2, m.c2, ?_, h1.belw g1, h3, g1⟩)
    rw [h2]
  | none =>
    refine sel_f (by rw [h.lo, hp]; rfl) (hb_ldS0 hb rfl ⟨m.A, m.c, ?_, h.r.belw g1, h.a, g1⟩)
    rw [h.n]
/-! ### rows that are made -/
def Acc (w w0 : World) (N : Nat → Prop) (A : Option Addr) (c : Nat) (f : Nat → Sec) (g : Nat → Option Sec) (i : Nat) : Prop :=
  ∃ ms : List SpM, OwnE eSp 3 w w0.heap.size TSp A c ms ∧ ms.length = i ∧ ∀ j (h : j < ms.length), SpR w (fun k => N k ∨ Ob A k) ms[j] (f j) (g j)
theorem Acc.belw {w0 : World} {A : Option Addr} {c i : Nat} {f : Nat → Sec} {g : Nat → Option Sec} (h : Acc w w0 N A c f g i) (k : Below w.heap.size w w') : Acc w' w0 N A c f g i := by
  obtain ⟨ms, h1, h2, h3⟩ := h
  exact ⟨ms, h1.below k, h2, fun j hj => (h3 j hj).belw k⟩
theorem Acc.nil {w0 : World} {f : Nat → Sec} {g : Nat → Option Sec} (hB : w0.heap.size ≤ w.heap.size) : Acc (w.alloc (.cells #[] TSp)) w0 N (some ⟨w.heap.size, 0, none⟩) 0 f g 0 := ⟨[], OwnE.empty hB, rfl, fun j h => absurd h (Nat.not_lt_zero _)⟩
theorem Acc.none {w0 : World} {f : Nat → Sec} {g : Nat → Option Sec} : Acc w w0 N none 0 f g 0 := ⟨[], OwnE.none _ _ _ _ _, rfl, fun j h => absurd h (Nat.not_lt_zero _)⟩
theorem Acc.rms {w0 : World} {A : Option Addr} {c i : Nat} {f : Nat → Sec} {g : Nat → Option Sec} (h : Acc w w0 N A c f g i) (hN : ∀ k, N k → k < w0.heap.size) {d : Dk} (hi : i = d.safe.length) (hf : ∀ j, j < d.safe.length → d.safe.getD j z0 = f j) (hg : ∀ j : Nat, j < d.safe.length → lk d.pend (j : Int) = g j) : RMs w N A d := by
  obtain ⟨ms, h1, h2, h3⟩ := h
  refine ⟨ms, h1.reads ESp, h2.trans hi, fun _ a ha hn => by have := hN _ hn; have := (h1.block a ha).1; omega, fun j hj => ?_⟩
  rw [hf j (by omega), hg j (by omega)]
  exact (h3 j hj).weak fun k => .inl
theorem Acc.put {w0 : World} {A : Option Addr} {n c i : Nat} {f : Nat → Sec} {g : Nat → Option Sec} (h : Acc w w0 N A c f g i) (en : n = i) (hm : SpR w (fun k => N k ∨ Ob A k) m (f i) (g i)) {cs : Array Value} {tb : TypeId} (hcs : cs.toList = eSp m) (hb : Below w0.heap.size w0 w) (hi : i < 4096)
    {ty : TypeId} {K : Option Addr → Nat → Nat → World → Prop} (k : ∀ A' c' w', Acc w' w0 N A' c' f g (i + 1) → Below w0.heap.size w0 w' → K A' (i + 1) c' w') :
    alW w (.cells cs tb) fun b w2 => Runs Try.prog (Builtin.append_ #[25, 25] ty #[.slice A n c, .slice (some (⟨b, 0, Option.none⟩ : Addr)) 1 1]) w2 fun v w3 => ∃ (A' : Option Addr) (n' : Nat) (c' : Nat), v = (.slice A' n' c') ∧ K A' n' c' w3 := by
  obtain ⟨ms, h1, h2, h3⟩ := h
  refine put_e RTsp ESp (by decide) h1 (by omega) m hcs hb.size (by omega) fun A' c' w3 o3 k3 f3 => ?_
  have hb3 : Below w0.heap.size w0 w3 := hb.trans (k3.below hb.size fun k hk ⟨a, ha, e⟩ => by have := (h1.block a ha).1; omega)
  have e : (ms ++ [m]).length = i + 1 := by simp [h2]
  rw [e]
  have up : ∀ {m : SpM} {s : Sec} {p : Option Sec}, SpR w (fun k => N k ∨ Ob A k) m s p → SpR w3 (fun k => N k ∨ Ob (some A') k) m s p := fun {m s p} hm => by
    have q1 : SpR w (fun k => (N k ∨ Ob A k) ∨ Ob (some A') k) m s p := hm.out fun k hk h => by
      rcases h with h | h
      · exact h
      · rcases f3 with f3 | f3
        · rw [f3]; exact .inr h
        · obtain ⟨a, ha, hk2⟩ := h
          injection ha with ha; subst ha; omega
    exact (q1.keeps k3 fun k hk => .inl (.inr hk)).weak fun k hk => hk.elim (fun h => .inl (.inl h)) .inr
  refine k (some A') c' w3 ⟨ms ++ [m], o3, e, fun j hj => ?_⟩ hb3
  by_cases hj2 : j < ms.length
  · rw [List.getElem_append_left hj2]
    exact up (h3 j hj2)
  · have : j = i := by omega
    subst this
    have em : (ms ++ [m])[j] = m := by rw [List.getElem_append_right (by omega)]; simp [h2]
    rw [em]
    exact up hm
/-- spots of a given row, as a loop that makes another row sees them -/
theorem RMs.src {w0 : World} {A A2 : Option Addr} (h : RMs w0 N A d) (hb : Below w0.heap.size w0 w) (hA : ∀ a, A2 = some a → w0.heap.size ≤ a.block) : RMs w (fun k => N k ∨ Ob A2 k) A d := by
  have h1 : RMs w0 (fun k => N k ∨ w0.heap.size ≤ k) A d := h.out fun k hk h => h.elim id fun h => by omega
  have h2 := h1.belw hb
  exact h2.out fun k hk h => h.elim .inl fun ⟨a, ha, e⟩ => .inr (by have := hA a ha; omega)
theorem Acc.blk {w0 : World} {A : Option Addr} {c i : Nat} {f : Nat → Sec} {g : Nat → Option Sec} (h : Acc w w0 N A c f g i) : ∀ a, A = some a → w0.heap.size ≤ a.block := by
  obtain ⟨ms, h1, _⟩ := h
  exact fun a ha => (h1.block a ha).1
/-- a spot's cells out of a row -/
theorem RMs.ld {A : Option Addr} (h : RMs w N A d) {i n : Nat} (hi : i < d.safe.length) (hn : n = d.safe.length) {K : Addr → Prop}
    (hk : ∀ a m, w.cell? (a.add (i * 3)) = some (.slice m.A m.n m.c) → w.cell? ((a.add (i * 3)).add 1) = some (.slice m.A2 m.n2 m.c2) → w.cell? ((a.add (i * 3)).add 2) = some (.bool m.lo) → SpR w N m (d.safe.getD i z0) (lk d.pend (i : Int)) → K a) :
    optB A fun a => req (decide (0 ≤ (i : Int) ∧ (i : Int) < (n : Int))) (K a) := by
  obtain ⟨ms, h1, h2, h3, h4⟩ := h
  have hi2 : i < ms.length := by omega
  obtain ⟨a, rfl, hc⟩ := h1 i hi2
  refine optB_some rfl (req_intro (by simp; omega) (hk a ms[i] ?_ ?_ ?_ (h4 i hi2)))
  · have := h1.c0 ESp hi2; rw [this]; rfl
  · have := h1.cj hi2 (j := 1) (by decide); rw [this]; rfl
  · have := h1.cj hi2 (j := 2) (by decide); rw [this]; rfl
theorem ldB_intro {w : World} {a : Addr} {K : Bool → Prop} {x : Bool} (h : w.cell? a = some (.bool x)) (hk : K x) : ldB w a K := ⟨x, h, hk⟩
end
end Go.Proofs.Ythekjlglnmhlaaa.Rd
