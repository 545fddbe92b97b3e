/- The table in memory: its two maps, each transaction's block and map; types. Conditions: none. -/
import Derived.Test.YtbfcjnbjhpfdfaaMvB
import Derived.Test.YtbfcjnbjhpfdfaaRdA
import Derived.DeepKeys4
namespace Go.Dn
open Go.RowKit
set_option linter.unusedVariables false
/-- a struct of a bool and an int -/
def biStruct (P : Program) (k : TypeId) : Bool := match P.underlying k with
  | some (.struct ⟨[f1, f2]⟩) => f1.name != "_" && f2.name != "_" && Nat.beq f1.offset 0 && Nat.beq f2.offset 1 && (match P.underlying f1.type with | some .bool => true | _ => false) && (match P.underlying f2.type with | some (.int .i64) => true | _ => false) &&
      Nat.beq (P.cellsOf f1.type) 1 && Nat.beq (P.cellsOf f2.type) 1 && Nat.beq (P.cellsOf k) 2 && P.keyType k && Nat.ble 1 P.types.size
  | _ => false
theorem keyOf_bi {P : Program} {k : TypeId} (h : biStruct P k = true) {b : Bool} {i : Int} (hi : W64 i) : keyOf P k (.agg #[.bool b, .int .i64 i]) = some (.string (keyBytes [.bool b, .int .i64 i])) := by
  unfold biStruct at h
  split at h
  · rename_i f1 f2 hu
    simp only [Bool.and_eq_true] at h
    obtain ⟨⟨⟨⟨⟨⟨⟨⟨⟨⟨h1, h2⟩, h3⟩, h4⟩, h5⟩, h6⟩, h7⟩, h8⟩, h9⟩, h10⟩, h11⟩ := h
    have h3 := Nat.eq_of_beq_eq_true h3
    have h4 := Nat.eq_of_beq_eq_true h4
    have h7 := Nat.eq_of_beq_eq_true h7
    have h8 := Nat.eq_of_beq_eq_true h8
    have h9 := Nat.eq_of_beq_eq_true h9
    have h11 := Nat.le_of_ble_eq_true h11
    have h5 : P.underlying f1.type = some .bool := by split at h5 <;> first | assumption | cases h5
    have h6 : P.underlying f2.type = some (.int .i64) := by split at h6 <;> first | assumption | cases h6
    obtain ⟨m, hm⟩ : ∃ m, P.types.size = m + 1 := ⟨P.types.size - 1, by omega⟩
    unfold keyOf
    simp only [hu]
    rw [if_pos (by simp [h10, Value.formed, hu, h9]), hm]
    unfold Program.keyLits
    simp only [hu, Value.cells]
    have h1' : f1.name ≠ "_" := by simpa using h1
    have h2' : f2.name ≠ "_" := by simpa using h2
    rw [if_pos ⟨by rw [h9]; rfl, by simp [h1', h2']⟩, List.mapM_cons, List.mapM_cons, List.mapM_nil]
    simp [Program.keyLits, h3, h4, h5, h6, h7, h8, hi.wf]
  · cases h
def eR (r : Rf) : Value := .agg #[.bool r.1, .int .i64 r.2]
def okR (r : Rf) : Prop := W64 r.2
theorem eR_inj (x y : Rf) (h : eR x = eR y) : x = y := by
  unfold eR at h
  injection h with h
  have h1 := congrArg (·[0]?) h
  have h2 := congrArg (·[1]?) h
  simp at h1 h2
  exact Prod.ext h1 h2
def eP (p : Nat) : Value := .pointer (some ⟨p, 0, none⟩)
def eI (i : Int) : Value := .int .i64 i
theorem eI_inj (x y : Int) (h : eI x = eI y) : x = y := by injection h
/-- a live transaction in memory: its number, its block, its map's, its start, what it touched -/
structure Lv where
  n : Int
  p : Nat
  q : Nat
  s : Int
  tm : List (Rf × Bool)
structure Mv (w : World) (a bl bw : Nat) (tT tX : TypeId) (L : List Lv) (W : List (Rf × Int)) (t : Tb) : Prop where
  tab : HB w a #[.int .i64 t.last, .int .i64 t.txs.length, .map (some bl), .map (some bw)] tT
  lv : GM w eI eP W64 bl (L.map fun v => (v.n, v.p))
  wr : GM w eR eI okR bw W
  tx : ∀ v ∈ L, HB w v.p #[.int .i64 v.s, .map (some v.q)] tX ∧ GM w eR Value.bool okR v.q v.tm
  ap : (bl :: bw :: L.map Lv.q).Nodup
  ne : tT ≠ tX
  mem : ∀ v ∈ L, ∃ x, t.get v.n = some x ∧ x.start = v.s ∧ ∀ r, (∃ b, (r, b) ∈ v.tm) ↔ r ∈ x.tk
  all : ∀ n x, t.get n = some x → ∃ v ∈ L, v.n = n
  ok : TbOk t
  wok : WOk t W
def Own (a bl bw : Nat) (L : List Lv) (k : Nat) : Prop := k = a ∨ k = bl ∨ k = bw ∨ ∃ v ∈ L, k = v.p ∨ k = v.q
/-- the table at block a, in the blocks F -/
def TB (w : World) (F : Nat → Prop) (a : Nat) (tT tX : TypeId) (t : Tb) : Prop := ∃ bl bw L W, Mv w a bl bw tT tX L W t ∧ ∀ k, F k ↔ Own a bl bw L k
section
variable {w : World} {a bl bw : Nat} {tT tX : TypeId} {L : List Lv} {W : List (Rf × Int)} {t : Tb}
theorem Mv.own_lt (h : Mv w a bl bw tT tX L W t) {k : Nat} (hk : Own a bl bw L k) : k < w.heap.size := by
  rcases hk with rfl | rfl | rfl | ⟨v, hv, rfl | rfl⟩
  · exact h.tab.lt
  · exact h.lv.lt
  · exact h.wr.lt
  · exact (h.tx v hv).1.lt
  · exact (h.tx v hv).2.lt
theorem Mv.keeps {S : Nat → Prop} {w' : World} (h : Mv w a bl bw tT tX L W t) (hk : Keeps S w w') (hS : ∀ k, Own a bl bw L k → ¬ S k) : Mv w' a bl bw tT tX L W t :=
  { h with
    tab := h.tab.keeps hk (hS _ (.inl rfl))
    lv := h.lv.keeps hk (hS _ (.inr (.inl rfl)))
    wr := h.wr.keeps hk (hS _ (.inr (.inr (.inl rfl))))
    tx := fun v hv => ⟨(h.tx v hv).1.keeps hk (hS _ (.inr (.inr (.inr ⟨v, hv, .inl rfl⟩)))), (h.tx v hv).2.keeps hk (hS _ (.inr (.inr (.inr ⟨v, hv, .inr rfl⟩))))⟩ }
theorem Mv.below {w' : World} (h : Mv w a bl bw tT tX L W t) (hk : Below w.heap.size w w') : Mv w' a bl bw tT tX L W t := h.keeps (S := fun _ => False) (.of_below hk) fun _ _ => id
theorem TB.keeps {S F : Nat → Prop} {w' : World} (h : TB w F a tT tX t) (hk : Keeps S w w') (hS : ∀ k, F k → ¬ S k) : TB w' F a tT tX t := by
  obtain ⟨bl, bw, L, W, h, hF⟩ := h
  exact ⟨bl, bw, L, W, h.keeps hk fun k hk' => hS k ((hF k).2 hk'), hF⟩
theorem TB.below {F : Nat → Prop} {w' : World} (h : TB w F a tT tX t) (hk : Below w.heap.size w w') : TB w' F a tT tX t := h.keeps (S := fun _ => False) (.of_below hk) fun _ _ => id
theorem TB.lt {F : Nat → Prop} (h : TB w F a tT tX t) {k : Nat} (hk : F k) : k < w.heap.size := by
  obtain ⟨bl, bw, L, W, h, hF⟩ := h
  exact h.own_lt ((hF k).1 hk)
theorem TB.ok {F : Nat → Prop} (h : TB w F a tT tX t) : TbOk t := by
  obtain ⟨bl, bw, L, W, h, hF⟩ := h
  exact h.ok
theorem Mv.nd (h : Mv w a bl bw tT tX L W t) : (L.map Lv.n).Nodup := by
  have := h.lv.nd
  unfold NdK at this
  rw [List.map_map] at this
  exact this
theorem Mv.perm (h : Mv w a bl bw tT tX L W t) : (L.map Lv.n).Perm t.lives := by
  refine length_of_iff h.nd t.lives_nd fun n => ?_
  rw [Tb.mem_lives, List.mem_map]
  constructor
  · rintro ⟨v, hv, rfl⟩
    obtain ⟨x, hx, _⟩ := h.mem v hv
    exact ⟨x, hx⟩
  · rintro ⟨x, hx⟩
    obtain ⟨v, hv, e⟩ := h.all n x hx
    exact ⟨v, hv, e⟩
theorem Mv.len (h : Mv w a bl bw tT tX L W t) : L.length = t.lives.length := by
  have := h.perm.length_eq
  rw [List.length_map] at this; exact this
theorem Mv.uniq (h : Mv w a bl bw tT tX L W t) {u v : Lv} (hu : u ∈ L) (hv : v ∈ L) (e : u.n = v.n) : u = v := by
  rcases pw_mem (List.pairwise_map.1 h.nd) hu hv with e' | e' | e'
  · exact e'
  · exact absurd e e'
  · exact absurd e.symm e'
theorem Mv.uq (h : Mv w a bl bw tT tX L W t) {u v : Lv} (hu : u ∈ L) (hv : v ∈ L) (e : u.q = v.q) : u = v := by
  have := h.ap
  rw [List.nodup_cons, List.nodup_cons] at this
  rcases pw_mem (List.pairwise_map.1 this.2.2) hu hv with e' | e' | e'
  · exact e'
  · exact absurd e e'
  · exact absurd e.symm e'
theorem Mv.lbw (h : Mv w a bl bw tT tX L W t) : bl ≠ bw := fun e => (List.nodup_cons.1 h.ap).1 (by rw [e]; simp)
theorem Mv.lq (h : Mv w a bl bw tT tX L W t) {v : Lv} (hv : v ∈ L) : v.q ≠ bl := fun e => (List.nodup_cons.1 h.ap).1 (by rw [← e]; exact List.mem_cons_of_mem _ (List.mem_map_of_mem hv))
theorem Mv.wq (h : Mv w a bl bw tT tX L W t) {v : Lv} (hv : v ∈ L) : v.q ≠ bw := fun e => (List.nodup_cons.1 (List.nodup_cons.1 h.ap).2).1 (by rw [← e]; exact List.mem_map_of_mem hv)
theorem Mv.al (h : Mv w a bl bw tT tX L W t) : a ≠ bl := fun e => h.lv.not_cells (e ▸ h.tab)
theorem Mv.aw (h : Mv w a bl bw tT tX L W t) : a ≠ bw := fun e => h.wr.not_cells (e ▸ h.tab)
theorem Mv.aq (h : Mv w a bl bw tT tX L W t) {v : Lv} (hv : v ∈ L) : v.q ≠ a := fun e => (h.tx v hv).2.not_cells (e ▸ h.tab)
theorem Mv.pa (h : Mv w a bl bw tT tX L W t) {v : Lv} (hv : v ∈ L) : v.p ≠ a := fun e => by
  have h1 := (h.tx v hv).1
  have h2 := h.tab
  rw [e] at h1
  unfold HB at h1 h2
  rw [h2] at h1
  injection h1 with h1
  injection h1 with _ h1
  exact h.ne h1
theorem Mv.pl (h : Mv w a bl bw tT tX L W t) {v : Lv} (hv : v ∈ L) : v.p ≠ bl := fun e => h.lv.not_cells (e ▸ (h.tx v hv).1)
theorem Mv.pw (h : Mv w a bl bw tT tX L W t) {v : Lv} (hv : v ∈ L) : v.p ≠ bw := fun e => h.wr.not_cells (e ▸ (h.tx v hv).1)
theorem Mv.pq (h : Mv w a bl bw tT tX L W t) {u v : Lv} (hu : u ∈ L) (hv : v ∈ L) : u.p ≠ v.q := fun e => (h.tx v hv).2.not_cells (e ▸ (h.tx u hu).1)
/-- what the map of those under way tells of a number -/
theorem Mv.look (h : Mv w a bl bw tT tX L W t) (n : Int) : (lk (L.map fun v => (v.n, v.p)) n = none ∧ t.get n = none) ∨ ∃ v x, v ∈ L ∧ v.n = n ∧ lk (L.map fun v => (v.n, v.p)) n = some v.p ∧ t.get n = some x ∧ x.start = v.s ∧ ∀ r, (∃ b, (r, b) ∈ v.tm) ↔ r ∈ x.tk := by
  cases hx : t.get n with
  | none =>
    refine .inl ⟨lk_none fun p hp e => ?_, rfl⟩
    obtain ⟨v, hv, rfl⟩ := List.mem_map.1 hp
    obtain ⟨x, h1, _⟩ := h.mem v hv
    simp only at e
    rw [e, hx] at h1; cases h1
  | some x =>
    obtain ⟨v, hv, e⟩ := h.all n x hx
    subst e
    obtain ⟨x', h1, h2, h3⟩ := h.mem v hv
    rw [hx] at h1; injection h1 with h1; subst h1
    exact .inr ⟨v, x, hv, rfl, lk_mem h.lv.nd (List.mem_map.2 ⟨v, hv, rfl⟩), rfl, h2, h3⟩
end
end Go.Dn
namespace Go.Proofs.Ytbfcjnbjhpfdfaa.Rd
open Go.Dn Go.RowKit
set_option linter.unusedVariables false
set_option maxRecDepth 100000
theorem bi62 : biStruct Try.prog 62 = true := by kernel_rfl
theorem laidOut : laidOutB Try.prog = true := by kernel_rfl
theorem lawR : WideMaps.KeyLaw Try.prog 62 := deep_law_laid laidOut (m := 2) (by omega) (of_decide_eq_true (by kernel_rfl)) (by kernel_rfl) (by kernel_rfl)
theorem keyR (r : Rf) (h : okR r) : ∃ l, keyOf Try.prog 62 (eR r) = some l := ⟨_, keyOf_bi bi62 h⟩
theorem Kint : Try.prog.underlying 3 = some (.int .i64) := by kernel_rfl
theorem KTl : KT Try.prog 57 3 78 eI W64 := ⟨by kernel_rfl, Maps.int_keyed Kint, fun x h => ⟨_, Maps.keyOf_int_mk Kint h.wf⟩, eI_inj⟩
theorem KTw : KT Try.prog 58 62 2 eR okR := ⟨by kernel_rfl, Maps.Keyed.of_law lawR, keyR, eR_inj⟩
theorem KTt : KT Try.prog 79 62 4 eR okR := ⟨by kernel_rfl, Maps.Keyed.of_law lawR, keyR, eR_inj⟩
theorem z78 (w : World) : (zeroValue 78).run Try.prog w = .ok (.pointer none) w := by kernel_rfl
theorem z2 (w : World) : (zeroValue 2).run Try.prog w = .ok (.int .i64 0) w := by kernel_rfl
theorem z4 (w : World) : (zeroValue 4).run Try.prog w = .ok (.bool false) w := by kernel_rfl
abbrev TBL (w : World) (F : Nat → Prop) (a : Nat) (t : Tb) : Prop := TB w F a 60 81 t
end Go.Proofs.Ytbfcjnbjhpfdfaa.Rd
