/- Words for contracts over lists of bytes: what a slice reads, what a call owns, appending; plain lemmas on Go's numbers. Conditions: none. -/
import Derived.Test.YtakgoekfnhkgaaaDoorDen
import Derived.Laws.OwnMore
import Derived.Below
import Derived.IntWalk
import Derived.OpenShut
namespace Go.Dn
open Go.RowKit
set_option linter.unusedVariables false

/-! ### steps -/
theorem runs_of {P : Program} {α : Type} {s : Sem α} {w w' : World} {K : α → World → Prop} {a : α} (h : s.run P w = .ok a w') (hk : K a w') : Runs P s w K := ⟨a, w', h, hk⟩
theorem alW_intro {w : World} {o : Obj} {K : Nat → World → Prop} (h : K w.heap.size (w.alloc o)) : alW w o K := h
theorem drW_intro {w : World} {K : World → Prop} (h : K w.drew) : drW w K := h
theorem stW_intro {w : World} {a : Addr} {v : Value} {K : World → Prop} (h : Wr w a) (hk : K (w.setCell a v)) : stW w a v K := ⟨h, hk⟩
theorem ldI_intro {w : World} {a : Addr} {k : IntKind} {K : Int → Prop} {x : Int} (h : w.cell? a = some (.int k x)) (hk : K x) : ldI w a k K := ⟨x, h, hk⟩
theorem ldS_intro {w : World} {a : Addr} {K : Option Addr → Nat → Nat → Prop} {A : Option Addr} {n c : Nat} (h : w.cell? a = some (.slice A n c)) (hk : K A n c) : ldS w a K := ⟨A, n, c, h, hk⟩
theorem w64_in {x : Int} (h : -9223372036854775808 ≤ x ∧ x ≤ 9223372036854775807) : IntKind.i64.wrap x = x := IntWalk.i64_in x h
theorem calls_mono {P : Program} {f : FuncId} {args : Array Value} {w : World} {R R' : Ending → World → Prop} (h : Calls P f args w R) (hr : ∀ e w', R e w' → R' e w') : Calls P f args w R' := h.mono hr

theorem add_mk (b o n : Nat) : (⟨b, o, none⟩ : Addr).add n = ⟨b, o + n, none⟩ := by
  unfold Addr.add; split
  · rename_i h; subst h; rfl
  · rfl
theorem add_block (a : Addr) (n : Nat) : (a.add n).block = a.block := by unfold Addr.add; split <;> rfl
theorem add_zero (a : Addr) : a.add 0 = a := rfl
theorem add_add (a : Addr) (m n : Nat) : (a.add m).add n = a.add (m + n) := by
  unfold Addr.add
  by_cases hm : m = 0
  · subst hm; simp
  · by_cases hn : n = 0
    · subst hn; simp [hm]
    · have : m + n ≠ 0 := by omega
      simp [hm, hn, Nat.add_assoc]

/-! ### lists of bytes -/
def byteV (b : UInt8) : Value := .int .u8 (b.toNat : Int)
structure ByteTy (P : Program) (t e : TypeId) : Prop where
  und : P.underlying t = some (.slice e)
  row : (P.info? e).map (fun i => (i.zero, i.size, i.bytes)) = some (some (.int .u8 0), 1, 1)
theorem ByteTy.info {P : Program} {t e : TypeId} (h : ByteTy P t e) : ∃ i, P.info? e = some i ∧ i.zero = some (.int .u8 0) ∧ i.size = 1 ∧ i.bytes = 1 := by
  have := h.row
  cases hi : P.info? e with
  | none => rw [hi] at this; cases this
  | some i =>
    rw [hi] at this
    simp only [Option.map_some, Option.some.injEq, Prod.mk.injEq] at this
    exact ⟨i, rfl, this.1, this.2.1, this.2.2⟩
/-- a slice at A reads these bytes -/
def RB (w : World) (A : Option Addr) (l : List UInt8) : Prop := ∀ i (h : i < l.length), ∃ a, A = some a ∧ w.cell? (a.add i) = some (byteV l[i])
theorem RB.nil (w : World) (A : Option Addr) : RB w A [] := fun i h => absurd h (Nat.not_lt_zero _)
theorem RB.take {w : World} {A : Option Addr} {l : List UInt8} (h : RB w A l) (n : Nat) : RB w A (l.take n) := fun i hi => by
  have hi' : i < l.length := by rw [List.length_take] at hi; omega
  obtain ⟨a, ha, hc⟩ := h i hi'
  exact ⟨a, ha, by rw [hc, List.getElem_take]⟩
theorem RB.below {w w' : World} {A : Option Addr} {l : List UInt8} {B : Nat} (h : RB w A l) (hb : Below B w w') (hB : w.heap.size ≤ B) : RB w' A l := fun i hi => by
  obtain ⟨a, ha, hc⟩ := h i hi
  refine ⟨a, ha, ?_⟩
  rw [hb.cell (p := a.add i) (Nat.lt_of_lt_of_le (World.block_lt_of_cell? w _ hc) hB)]
  exact hc
theorem RB.drop {w : World} {a : Addr} {l : List UInt8} (h : RB w (some a) l) (n : Nat) : RB w (some (a.add n)) (l.drop n) := fun i hi => by
  rw [List.length_drop] at hi
  obtain ⟨a', ha, hc⟩ := h (n + i) (by omega)
  injection ha with ha; subst ha
  exact ⟨_, rfl, by rw [add_add, hc, List.getElem_drop]⟩
/-- the call owns a row of these bytes, from block B on -/
def OwnB (w : World) (B : Nat) (e : TypeId) (A : Option Addr) (c : Nat) (l : List UInt8) : Prop := w.ownsRow B e 1 (.slice A l.length c) l.length (l.map byteV)
theorem OwnB.reads {w : World} {B e : Nat} {A : Option Addr} {c : Nat} {l : List UInt8} (h : OwnB w B e A c l) : RB w A l := by
  intro i hi
  obtain ⟨hl, h⟩ := h
  rcases h with ⟨_, h0⟩ | ⟨g, cap, cur, hv, hg, hh, hn, hm, hs, ht⟩
  · omega
  · injection hv with hA hn' hc
    refine ⟨_, hA, ?_⟩
    have hx := World.ownsRow.cellAt (w := w) (base := B) (e := e) (size := 1) (g := g) (n := l.length) (cap := cap) (xs := l.map byteV) ⟨hl, .inr ⟨g, cap, cur, rfl, hg, hh, hn, hm, hs, ht⟩⟩ i (by omega)
    rw [add_mk, Nat.zero_add, hx]
    simp [hi]
theorem OwnB.block {w : World} {B e : Nat} {A : Option Addr} {c : Nat} {l : List UInt8} (h : OwnB w B e A c l) : ∀ a, A = some a → B ≤ a.block ∧ a.block < w.heap.size := by
  intro a ha; subst ha
  exact World.ownsRow.lt h a.block rfl
theorem OwnB.keep {w w' : World} {B e : Nat} {A : Option Addr} {c : Nat} {l : List UInt8} (h : OwnB w B e A c l) (hb : Below w.heap.size w w') : OwnB w' B e A c l := by
  obtain ⟨hl, h⟩ := h
  refine ⟨hl, ?_⟩
  rcases h with h | ⟨g, cap, cur, hv, hg, hh, r⟩
  · exact .inl h
  · refine .inr ⟨g, cap, cur, hv, hg, ?_, r⟩
    have hlt : g < w.heap.size := by
      rcases Nat.lt_or_ge g w.heap.size with hx | hx
      · exact hx
      · rw [Array.getElem?_eq_none hx] at hh; cases hh
    rw [hb.block g hlt]; exact hh
theorem OwnB.mono {w : World} {B B' e : Nat} {A : Option Addr} {c : Nat} {l : List UInt8} (h : OwnB w B e A c l) (hB : B' ≤ B) : OwnB w B' e A c l := by
  obtain ⟨hl, h⟩ := h
  refine ⟨hl, ?_⟩
  rcases h with h | ⟨g, cap, cur, hv, hg, r⟩
  · exact .inl h
  · exact .inr ⟨g, cap, cur, hv, Nat.le_trans hB hg, r⟩
theorem OwnB.le {w : World} {B e : Nat} {A : Option Addr} {c : Nat} {l : List UInt8} (h : OwnB w B e A c l) : l.length ≤ c := by
  obtain ⟨_, h⟩ := h
  rcases h with ⟨_, h⟩ | ⟨g, cap, cur, hv, hg, hh, hn, _⟩
  · omega
  · injection hv with _ _ hv; omega
theorem OwnB.nil0 {w : World} {B e : Nat} {A : Option Addr} {c : Nat} {l : List UInt8} (h : OwnB w B e A c l) : A = none → c = 0 := by
  intro hA; subst hA
  obtain ⟨_, h⟩ := h
  rcases h with ⟨h, _⟩ | ⟨g, cap, cur, hv, _⟩
  · injection h
  · injection hv with hv; cases hv

/-- a row that a literal makes -/
theorem OwnB.lit {w : World} {B e : Nat} (l : List UInt8) {cs : Array Value} (hcs : cs.toList = l.map byteV) (hB : B ≤ w.heap.size) (hl : l.length ≤ 140737488355328) :
    OwnB (w.alloc (.cells cs e)) B e (some ⟨w.heap.size, 0, none⟩) l.length l := by
  have h := World.ownsRow_lit (base := B) (e := e) (size := 1) w cs l.length hB (by unfold maxLen; omega) (by rw [← Array.length_toList, hcs]; simp)
  rw [hcs] at h
  exact h
theorem byteV_one (l : List UInt8) : ∀ u ∈ l.map byteV, u.oneCell' = true := by
  intro u hu
  obtain ⟨b, _, rfl⟩ := List.mem_map.1 hu
  rfl
/-- appending bytes to a row of one's own -/
theorem app_runs {P : Program} {t e : TypeId} (hT : ByteTy P t e) {w : World} {B : Nat} {A : Option Addr} {n c : Nat} {l : List UInt8} {A2 : Option Addr} {m c2 : Nat} {l2 : List UInt8} {ty : TypeId}
    {K : Value → World → Prop} (ho : OwnB w B e A c l) (hn : n = l.length) (hr : RB w A2 l2) (hm : m = l2.length) (hc0 : A2 = none → m = 0 ∧ c2 = 0) (hB : B ≤ w.heap.size) (hlen : l.length + l2.length ≤ 140737488355328)
    (hK : ∀ A' c' w', OwnB w' B e A' c' (l ++ l2) → Below B w w' → w.heap.size ≤ w'.heap.size → (∀ k, k < w.heap.size → some k ≠ (Value.slice A n c).ownBlock → w'.heap[k]? = w.heap[k]?) → K (.slice A' (l ++ l2).length c') w') :
    Runs P (Builtin.append_ #[t, t] ty #[.slice A n c, .slice A2 m c2]) w K := by
  obtain ⟨i, hi, hz, hs, hby⟩ := hT.info
  subst hn; subst hm
  cases A2 with
  | none =>
    obtain ⟨h0, hc⟩ := hc0 rfl
    have hl2 : l2 = [] := List.length_eq_zero_iff.mp h0
    subst hl2; subst hc
    refine runs_of (run_append_owned_none w B t ty e i 1 hT.und hi _ _ _ ho) ?_
    have := hK A c w (by rw [List.append_nil]; exact ho) (Below.refl _ _) (Nat.le_refl _) (fun _ _ _ => rfl)
    rw [List.append_nil] at this
    exact this
  | some a =>
    obtain ⟨v', w', hrun, ho', hg, _⟩ := run_append_own w B t ty e i (.int .u8 0) 1 1 hT.und hi hz hs hby rfl (by decide) (.slice A l.length c) l.length (l.map byteV) ho a l2.length c2 (l2.map byteV) (by simp)
      (fun j u hj => by
        rw [List.getElem?_map] at hj
        cases hx : l2[j]? with
        | none => rw [hx] at hj; cases hj
        | some b =>
          rw [hx] at hj; injection hj with hj; subst hj
          obtain ⟨hlt, hb⟩ := List.getElem?_eq_some_iff.1 hx
          obtain ⟨a', ha, hc⟩ := hr j hlt
          injection ha with ha; subst ha
          rw [hc, hb])
      (byteV_one l2) (by unfold maxLen; omega) (by omega) hB
    refine runs_of hrun ?_
    have hshape : ∃ A' c', v' = .slice A' (l ++ l2).length c' := by
      obtain ⟨_, h⟩ := ho'
      rcases h with ⟨h1, h2⟩ | ⟨g, cap, cur, hv, _⟩
      · exact ⟨none, 0, by rw [h1]; congr 1; rw [List.length_append]; omega⟩
      · exact ⟨_, _, by rw [hv, List.length_append]⟩
    obtain ⟨A', c', rfl⟩ := hshape
    refine hK A' c' w' ?_ ?_ hg.size hg.block
    · unfold OwnB
      rw [List.map_append]
      rw [List.length_append] at ho' ⊢
      exact ho'
    · refine (Below.refl B w).grown hg hB fun k hk => ?_
      exact (World.ownsRow.lt ho k hk).1

/-- appending to a row of one's own: what was there stays, at the old place too -/
theorem app_keep {P : Program} {t e : TypeId} (hT : ByteTy P t e) {w : World} {B : Nat} {A : Option Addr} {n c : Nat} {l : List UInt8} {A2 : Option Addr} {m c2 : Nat} {l2 : List UInt8} {ty : TypeId}
    {K : Value → World → Prop} (ho : OwnB w B e A c l) (hn : n = l.length) (hr : RB w A2 l2) (hm : m = l2.length) (h0 : 0 < l2.length) (hB : B ≤ w.heap.size) (hlen : l.length + l2.length ≤ 140737488355328)
    (hK : ∀ A' c' w', OwnB w' B e A' c' (l ++ l2) → w.grownBy w' (Value.slice A n c).ownBlock → (A' = A ∨ ∀ a, A' = some a → w.heap.size ≤ a.block) → RB w' A l → K (.slice A' (l ++ l2).length c') w') :
    Runs P (Builtin.append_ #[t, t] ty #[.slice A n c, .slice A2 m c2]) w K := by
  obtain ⟨i, hi, hz, hs, hby⟩ := hT.info
  subst hn; subst hm
  obtain ⟨a, rfl, -⟩ := hr 0 h0
  have hnews : ∀ j u, (l2.map byteV)[j]? = some u → w.cell? (a.add j) = some u := fun j u hj => by
    rw [List.getElem?_map] at hj
    cases hx : l2[j]? with
    | none => rw [hx] at hj; cases hj
    | some b =>
      rw [hx] at hj; injection hj with hj; subst hj
      obtain ⟨hlt, hb⟩ := List.getElem?_eq_some_iff.1 hx
      obtain ⟨a', ha, hc⟩ := hr j hlt
      injection ha with ha; subst ha
      rw [hc, hb]
  have hshape : ∀ (v' : Value) (w' : World), w'.ownsRow B e 1 v' (l.length + l2.length) (l.map byteV ++ l2.map byteV) → ∃ A' c', v' = .slice A' (l ++ l2).length c' := by
    rintro v' w' ⟨_, h⟩
    rcases h with ⟨h1, h2⟩ | ⟨g, cap, cur, hv, _⟩
    · exact ⟨none, 0, by rw [h1]; congr 1; rw [List.length_append]; omega⟩
    · exact ⟨_, _, by rw [hv, List.length_append]⟩
  have hwrap : ∀ (A' : Option Addr) (c' : Nat) (w' : World), w'.ownsRow B e 1 (.slice A' (l ++ l2).length c') (l.length + l2.length) (l.map byteV ++ l2.map byteV) → OwnB w' B e A' c' (l ++ l2) := by
    intro A' c' w' h
    unfold OwnB
    rw [List.map_append]
    rw [List.length_append] at h ⊢
    exact h
  obtain ⟨v', w', hrun, ho', hg, _⟩ := run_append_own (P := P) w B t ty e i (.int .u8 0) 1 1 hT.und hi hz hs hby rfl (by decide) (.slice A l.length c) l.length (l.map byteV) ho a l2.length c2 (l2.map byteV) (by simp) hnews
      (byteV_one l2) (by unfold maxLen; omega) (by omega) hB
  obtain ⟨A', c', rfl⟩ := hshape v' w' ho'
  refine runs_of hrun (hK A' c' w' (hwrap A' c' w' ho') hg ?_ ?_)
  · rcases ho.2 with ⟨h1, h2⟩ | ⟨g, cap, cur, hv, hbg, hgg, hnc, hcm, hcs, htake⟩
    · injection h1 with h1 _ h3; subst h1; subst h3
      right
      intro a' ha'
      have hr2 := run_append_nil (P := P) w t ty e i (.int .u8 0) hT.und hi hz a l2.length c2 (l2.map byteV) (by rw [hs]; simp) hnews h0 (by omega) (by rw [hby]; omega)
      have hl : l.length = 0 := h2
      rw [hl] at hrun
      rw [hr2] at hrun
      injection hrun with hv hw
      injection hv with hv; rw [← hv] at ha'; injection ha' with ha'; subst ha'; exact Nat.le_refl _
    · injection hv with hA hn hc
      subst hA; subst hc
      by_cases hroom : l.length + l2.length ≤ c
      · left
        obtain ⟨w2, hrun2, _⟩ := run_append_fits (P := P) w B t ty e i 1 hT.und hi hs g l.length c (l.map byteV) ho a l2.length c2 (l2.map byteV) (by simp) hnews (byteV_one l2) hroom
        rw [hrun2] at hrun
        injection hrun with hv _
        injection hv with hv; exact hv.symm
      · right
        intro a' ha'
        have hr2 := run_append_grow (P := P) w t ty e i (.int .u8 0) hT.und hi hz ⟨g, 0, none⟩ l.length c (l.map byteV) (by rw [hs]; simp) (ho.cells (g := g) rfl) a l2.length c2 (l2.map byteV) (by rw [hs]; simp) hnews (by omega) (by omega)
          (by rw [hby]; exact growslice_fits (by omega) (by omega))
        rw [hr2] at hrun
        injection hrun with hv hw
        injection hv with hv; rw [← hv] at ha'; injection ha' with ha'; subst ha'; exact Nat.le_refl _
  · rcases ho.2 with ⟨h1, h2⟩ | ⟨g, cap, cur, hv, hbg, hgg, hnc, hcm, hcs, htake⟩
    · have : l = [] := List.length_eq_zero_iff.mp h2
      subst this; exact RB.nil _ _
    · injection hv with hA hn hc
      subst hA; subst hc
      by_cases hroom : l.length + l2.length ≤ c
      · obtain ⟨w2, hrun2, ho2, hg2⟩ := run_append_fits (P := P) w B t ty e i 1 hT.und hi hs g l.length c (l.map byteV) ho a l2.length c2 (l2.map byteV) (by simp) hnews (byteV_one l2) hroom
        rw [hrun2] at hrun
        injection hrun with hv hw
        injection hv with hv _ hcc
        subst hv; subst hw
        have h3 := (hwrap _ _ _ ho').reads.take l.length
        rwa [List.take_left] at h3
      · have hr2 := run_append_grow (P := P) w t ty e i (.int .u8 0) hT.und hi hz ⟨g, 0, none⟩ l.length c (l.map byteV) (by rw [hs]; simp) (ho.cells (g := g) rfl) a l2.length c2 (l2.map byteV) (by rw [hs]; simp) hnews (by omega) (by omega)
          (by rw [hby]; exact growslice_fits (by omega) (by omega))
        rw [hr2] at hrun
        injection hrun with hv hw
        rw [← hw]
        exact ho.reads.below (B := w.heap.size) ((Below.refl w.heap.size w).drew.alloc (Nat.le_refl _) _) (Nat.le_refl _)

/-! ### what one row's writing leaves -/
/-- two slices lie in blocks apart -/
def Dj (A1 A2 : Option Addr) : Prop := ∀ a1 a2, A1 = some a1 → A2 = some a2 → a1.block ≠ a2.block
theorem RB.only {w w' : World} {A : Option Addr} {l : List UInt8} {b : Option Nat} (h : RB w A l) (hg : w.grownBy w' b) (hd : ∀ a, A = some a → some a.block ≠ b) : RB w' A l := fun i hi => by
  obtain ⟨a, rfl, hc⟩ := h i hi
  exact ⟨a, rfl, hg.cell hc (by rw [add_block]; exact hd a rfl)⟩
theorem gb_trans {a b c : World} {r : Option Nat} (h : a.grownBy b r) (k : b.grownBy c r) : a.grownBy c r :=
  ⟨k.os.trans h.os, k.tape.trans h.tape, k.output.trans h.output, Nat.le_trans h.size k.size, fun i hi hn => (k.block i (Nat.lt_of_lt_of_le hi h.size) hn).trans (h.block i hi hn)⟩
theorem gb_below {w0 w w' : World} {r : Option Nat} (h : w0.grownBy w r) (k : Below w0.heap.size w w') : w0.grownBy w' r :=
  ⟨k.os.trans h.os, k.tape.trans h.tape, k.output.trans h.output, Nat.le_trans h.size k.size, fun i hi hn => (k.block i hi).trans (h.block i hi hn)⟩
theorem below_gb {B : Nat} {w w' : World} {r : Option Nat} (h : w.grownBy w' r) (hB : B ≤ w.heap.size) (hr : ∀ k, r = some k → B ≤ k) : Below B w w' := (Below.refl B w).grown h hB hr
theorem OwnB.only {w w' : World} {B e : Nat} {A : Option Addr} {c : Nat} {l : List UInt8} {r : Option Nat} (h : OwnB w B e A c l) (hg : w.grownBy w' r) (hd : ∀ a, A = some a → some a.block ≠ r) : OwnB w' B e A c l := by
  refine World.ownsRow.kept h hg ?_
  cases A with
  | none => exact .inl rfl
  | some a => exact .inr (hd a rfl)

/-! ### what a row tells of a slice of whole numbers -/
def IsRow (k : IntKind) (w : World) (a : Option Addr) (len cap : Nat) (zs : List Int) : Prop :=
  (a = none ∧ len = 0 ∧ cap = 0 ∧ zs = []) ∨
  ∃ x, a = some x ∧ len ≤ cap ∧ cap ≤ maxLen ∧ zs.length = cap ∧ (∀ i, i < zs.length → w.cell? (x.add i) = some (.int k (zs.getD i 0))) ∧ ∀ n ∈ zs, (Lit.int k n).wf = true
theorem wf_u8 {n : Int} (h : (Lit.int .u8 n).wf = true) : 0 ≤ n ∧ n ≤ 255 := by
  simp [Lit.wf, IntKind.min, IntKind.max, IntKind.signed, IntKind.bits] at h
  omega
/-- bytes, as a row tells them -/
theorem rb_of_row {w : World} {a : Option Addr} {len cap : Nat} {zs : List Int} (h : IsRow .u8 w a len cap zs) :
    ∃ l : List UInt8, RB w a l ∧ len = l.length ∧ (a = none → cap = 0) ∧ l.length ≤ cap := by
  rcases h with ⟨rfl, rfl, rfl, rfl⟩ | ⟨x, rfl, hl, hm, hz, hc, hw⟩
  · exact ⟨[], RB.nil _ _, rfl, fun _ => rfl, Nat.le_refl _⟩
  · have hlen : ((zs.take len).map fun z => UInt8.ofNat z.toNat).length = len := by simp; omega
    refine ⟨(zs.take len).map fun z => UInt8.ofNat z.toNat, ?_, hlen.symm, (fun h => by cases h), by omega⟩
    intro i hi
    rw [hlen] at hi
    refine ⟨x, rfl, ?_⟩
    rw [hc i (by omega)]
    have hb := wf_u8 (hw (zs[i]'(by omega)) (List.getElem_mem _))
    have e : zs.getD i 0 = zs[i]'(by omega) := by simp [List.getD_eq_getElem?_getD, show i < zs.length by omega]
    rw [e]
    unfold byteV
    simp only [List.getElem_map, List.getElem_take, UInt8.toNat_ofNat']
    congr 2
    omega
/-- an array of whole numbers, handed in -/
theorem open_int_array {H : Type} {enc : TypeId × Value → H} {P : Program} {W : World} {base n : Nat} {t e : TypeId} {k : IntKind} {v : Value} {d : DataW H} {p : List MemPlace} (ht : P.underlying t = some (.array n e)) (he : P.underlying e = some (.int k)) (hce : P.cellsOf e = 1) (hct : P.cellsOf t = n)
    (hv : Value.okWide P W .any base t v) (h : DataW.Trod enc P W 0 (fun _ => true) true t v d p) : ∃ zs : List Int, v = .agg (zs.map (.int k ·)).toArray ∧ zs.length = n ∧ ∀ z ∈ zs, (Lit.int k z).wf = true := by
  obtain ⟨cs, rfl, hsz, _⟩ : ∃ cs, v = .agg cs ∧ cs.size = P.cellsOf t ∧ Row.okWide P W .any base t cs := by simpa [Value.okWide, ht] using hv
  rw [hct] at hsz
  obtain ⟨l⟩ := cs
  obtain ⟨fuel, hf⟩ := h
  obtain ⟨xs, m, _, _, _, hl, hel⟩ := DataW.trod_array ht hf
  have hsz : l.length = n := by simpa using hsz
  have hall : ∀ i (hi : i < l.length), ∃ z, l[i] = .int k z ∧ (Lit.int k z).wf = true := by
    intro i hi
    have h1 := hel i (by omega)
    rw [hce, Nat.mul_one] at h1
    have hx : xs[i]? = some (xs[i]'(by omega)) := List.getElem?_eq_getElem (by omega)
    have hd : ((Value.agg l.toArray).cells.toList.drop i).take 1 = [l[i]] := by
      show (l.drop i).take 1 = _
      rw [List.drop_eq_getElem_cons hi, List.take_succ_cons, List.take_zero]
    rw [hx, hd] at h1
    obtain ⟨z, e0, _, w0⟩ := DataW.trod_int he h1
    exact ⟨z, by simpa using e0, w0⟩
  refine ⟨l.map fun v => match v with | .int _ z => z | _ => 0, ?_, by simpa using hsz, ?_⟩
  · congr 1
    rw [List.map_map]
    have : l.map ((fun z => Value.int k z) ∘ fun v => match v with | .int _ z => z | _ => 0) = l := by
      apply List.ext_getElem
      · simp
      · intro i h1 h2
        obtain ⟨z, hz, _⟩ := hall i h2
        rw [List.getElem_map, hz]; rfl
    rw [this]
  · intro z hz
    obtain ⟨u, hu, rfl⟩ := List.mem_map.1 hz
    obtain ⟨i, hi, rfl⟩ := List.getElem_of_mem hu
    obtain ⟨z, hz, hw⟩ := hall i hi
    rw [hz]; exact hw
end Go.Dn
