/- Maps at whatever keys and elements, as lists of pairs; a range over one that lays nothing into it. Conditions: none. -/
import Derived.Test.YtpokaafedpnbdaaDoorHBw
import Derived.Maps.OwnSet
import Derived.Maps.RangeRun
import Derived.WalkArith
namespace Go.Dn
open Go.RowKit
open Go.ChangeMaps (setBlock heap_setBlock_same heap_setBlock_other)
set_option linter.unusedVariables false
set_option linter.unusedSectionVars false
def W64 (n : Int) : Prop := -9223372036854775808 ≤ n ∧ n ≤ 9223372036854775807
theorem W64.wf {n : Int} (h : W64 n) : (Lit.int .i64 n).wf = true := WalkArith.wf_i64 h
theorem sb_same {w : World} {b : Nat} {o o' : Obj} (h : w.heap[b]? = some o) : (setBlock w b o').heap[b]? = some o' := by
  have := (Array.getElem?_eq_some_iff.1 h).1
  simp [setBlock, this]
theorem sb_other {w : World} {b i : Nat} {o' : Obj} (h : i ≠ b) : (setBlock w b o').heap[i]? = w.heap[i]? := by
  unfold setBlock
  simp only
  rw [Array.getElem?_setIfInBounds_ne (Ne.symm h)]
theorem pw_mem {α : Type} {R : α → α → Prop} : ∀ {l : List α}, l.Pairwise R → ∀ {a b : α}, a ∈ l → b ∈ l → a = b ∨ R a b ∨ R b a
  | [], _, _, _, h, _ => by cases h
  | x :: l, hp, a, b, ha, hb => by
    obtain ⟨h1, h2⟩ := List.pairwise_cons.1 hp
    rcases List.mem_cons.1 ha with ea | ha <;> rcases List.mem_cons.1 hb with eb | hb
    · exact .inl (ea.trans eb.symm)
    · exact .inr (.inl (ea ▸ h1 _ hb))
    · exact .inr (.inr (eb ▸ h1 _ ha))
    · exact pw_mem h2 ha hb
section
variable {κ β : Type} [DecidableEq κ]
/-! ### lists of pairs -/
def lk (m : List (κ × β)) (x : κ) : Option β := match m with
  | [] => none
  | p :: r => if p.1 = x then some p.2 else lk r x
def hasK (m : List (κ × β)) (x : κ) : Bool := m.any fun p => decide (p.1 = x)
def putK (m : List (κ × β)) (x : κ) (v : β) : List (κ × β) := if hasK m x then m.map (fun p => if p.1 = x then (x, v) else p) else m ++ [(x, v)]
def delK (m : List (κ × β)) (x : κ) : List (κ × β) := m.filter fun p => !decide (p.1 = x)
def NdK (m : List (κ × β)) : Prop := (m.map (·.1)).Nodup
theorem hasK_iff {m : List (κ × β)} {x : κ} : hasK m x = true ↔ ∃ v, (x, v) ∈ m := by
  unfold hasK
  rw [List.any_eq_true]
  constructor
  · rintro ⟨⟨y, v⟩, hp, e⟩
    simp only [decide_eq_true_eq] at e
    subst e; exact ⟨v, hp⟩
  · rintro ⟨v, h⟩; exact ⟨_, h, by simp⟩
theorem lk_none {m : List (κ × β)} {x : κ} (h : ∀ p ∈ m, p.1 ≠ x) : lk m x = none := by
  induction m with
  | nil => rfl
  | cons p r ih => rw [lk, if_neg (h p (by simp))]; exact ih fun q hq => h q (by simp [hq])
theorem lk_mem {m : List (κ × β)} (nd : NdK m) {x : κ} {v : β} (h : (x, v) ∈ m) : lk m x = some v := by
  induction m with
  | nil => cases h
  | cons p r ih =>
    unfold NdK at nd
    rw [List.map_cons, List.nodup_cons] at nd
    rcases List.mem_cons.1 h with e | h
    · subst e; rw [lk, if_pos rfl]
    · rw [lk, if_neg fun e => nd.1 (by rw [e]; exact List.mem_map.2 ⟨_, h, rfl⟩)]
      exact ih nd.2 h
theorem lk_some {m : List (κ × β)} {x : κ} {v : β} (h : lk m x = some v) : (x, v) ∈ m := by
  induction m with
  | nil => cases h
  | cons p r ih =>
    rw [lk] at h
    split at h
    · rename_i e
      injection h with h; subst h; subst e; simp
    · exact List.mem_cons_of_mem _ (ih h)
theorem lk_iff {m : List (κ × β)} (nd : NdK m) {x : κ} {v : β} : lk m x = some v ↔ (x, v) ∈ m := ⟨lk_some, lk_mem nd⟩
theorem lk_none_iff {m : List (κ × β)} {x : κ} : lk m x = none ↔ ∀ p ∈ m, p.1 ≠ x := by
  refine ⟨fun h p hp e => ?_, lk_none⟩
  induction m with
  | nil => cases hp
  | cons q r ih =>
    rw [lk] at h
    split at h
    · cases h
    · rename_i hq
      rcases List.mem_cons.1 hp with e' | hp
      · subst e'; exact hq e
      · exact ih h hp
theorem lk_putK {m : List (κ × β)} {x : κ} {v : β} (y : κ) : lk (putK m x v) y = if x = y then some v else lk m y := by
  unfold putK
  split
  · rename_i hh
    obtain ⟨u, h⟩ := hasK_iff.1 hh
    clear hh
    induction m generalizing u with
    | nil => cases h
    | cons p r ih =>
      rw [List.map_cons]
      by_cases e : p.1 = x
      · rw [if_pos e, lk]
        by_cases e2 : x = y
        · rw [if_pos e2, if_pos e2]
        · rw [if_neg e2, if_neg e2, lk, if_neg (fun e3 => e2 (e ▸ e3))]
          by_cases hr : ∃ u, (x, u) ∈ r
          · obtain ⟨u', hr⟩ := hr
            have := ih u' hr
            rw [if_neg e2] at this; exact this
          · have : r.map (fun p => if p.1 = x then (x, v) else p) = r := by
              refine (List.map_congr_left fun q hq => ?_).trans (List.map_id _)
              rw [if_neg fun e4 => hr ⟨q.2, by rw [← e4]; exact hq⟩]; rfl
            rw [this]
      · rw [if_neg e, lk, lk]
        have hr : (x, u) ∈ r := by
          rcases List.mem_cons.1 h with e2 | h
          · exact absurd (congrArg Prod.fst e2).symm e
          · exact h
        by_cases e2 : p.1 = y
        · rw [if_pos e2, if_pos e2, if_neg (fun e3 => e (e2.trans e3.symm))]
        · rw [if_neg e2, if_neg e2]; exact ih u hr
  · rename_i h
    have hn : ∀ p ∈ m, p.1 ≠ x := fun p hp e => h (hasK_iff.2 ⟨p.2, by rw [← e]; exact hp⟩)
    clear h
    induction m with
    | nil => rfl
    | cons p r ih =>
      rw [List.cons_append, lk, lk]
      by_cases e2 : p.1 = y
      · rw [if_pos e2, if_pos e2, if_neg fun e3 => hn p (by simp) (e2.trans e3.symm)]
      · rw [if_neg e2, if_neg e2]; exact ih fun q hq => hn q (by simp [hq])
theorem lk_delK {m : List (κ × β)} {x : κ} (y : κ) : lk (delK m x) y = if x = y then none else lk m y := by
  unfold delK
  induction m with
  | nil => simp [lk]
  | cons p r ih =>
    by_cases e : p.1 = x
    · rw [List.filter_cons_of_neg (by simp [e]), ih, lk]
      by_cases e2 : x = y
      · rw [if_pos e2, if_pos e2]
      · rw [if_neg e2, if_neg e2, if_neg fun e3 => e2 (e ▸ e3)]
    · rw [List.filter_cons_of_pos (by simp [e]), lk, lk, ih]
      by_cases e2 : p.1 = y
      · rw [if_pos e2, if_pos e2, if_neg fun e3 => e (e2.trans e3.symm)]
      · rw [if_neg e2, if_neg e2]
theorem keys_putK {m : List (κ × β)} {x : κ} {v : β} : (putK m x v).map (·.1) = if hasK m x then m.map (·.1) else m.map (·.1) ++ [x] := by
  unfold putK
  split
  · rw [List.map_map]
    refine List.map_congr_left fun p hp => ?_
    show (if p.1 = x then (x, v) else p).1 = p.1
    split
    · rename_i e; exact e.symm
    · rfl
  · rw [List.map_append]; rfl
theorem NdK.put {m : List (κ × β)} (nd : NdK m) (x : κ) (v : β) : NdK (putK m x v) := by
  unfold NdK
  rw [keys_putK]
  split
  · exact nd
  · rename_i h
    refine List.nodup_append.2 ⟨nd, by simp, fun a ha b hb e => h ?_⟩
    obtain ⟨p, hp, rfl⟩ := List.mem_map.1 ha
    have : b = x := by simpa using hb
    exact hasK_iff.2 ⟨p.2, by rw [← this, ← e]; exact hp⟩
theorem NdK.del {m : List (κ × β)} (nd : NdK m) (x : κ) : NdK (delK m x) := by
  unfold NdK delK
  exact nd.sublist (List.filter_sublist.map _)
theorem length_putK {m : List (κ × β)} {x : κ} {v : β} : (putK m x v).length = if hasK m x then m.length else m.length + 1 := by
  have := congrArg List.length (keys_putK (m := m) (x := x) (v := v))
  rw [List.length_map] at this
  rw [this]
  split <;> simp
theorem set_putK {m : List (κ × β)} (nd : NdK m) {j : Nat} {x : κ} {u v : β} (h : m[j]? = some (x, u)) : m.set j (x, v) = putK m x v := by
  unfold putK
  rw [if_pos (hasK_iff.2 ⟨u, List.mem_of_getElem? h⟩)]
  induction m generalizing j with
  | nil => cases h
  | cons p r ih =>
    unfold NdK at nd
    rw [List.map_cons, List.nodup_cons] at nd
    cases j with
    | zero =>
      simp only [List.getElem?_cons_zero, Option.some.injEq] at h
      subst h
      rw [List.set_cons_zero, List.map_cons, if_pos rfl]
      congr 1
      refine ((List.map_congr_left fun q hq => ?_).trans (List.map_id _)).symm
      rw [if_neg fun e => nd.1 (List.mem_map.2 ⟨q, hq, e⟩)]; rfl
    | succ j =>
      simp only [List.getElem?_cons_succ] at h
      have hne : p.1 ≠ x := fun e => nd.1 (by rw [e]; exact List.mem_map.2 ⟨_, List.mem_of_getElem? h, rfl⟩)
      rw [List.set_cons_succ, List.map_cons, if_neg hne, ih nd.2 h]
theorem erase_delK {m : List (κ × β)} (nd : NdK m) {j : Nat} {x : κ} {u : β} (h : m[j]? = some (x, u)) : m.eraseIdx j = delK m x := by
  unfold delK
  induction m generalizing j with
  | nil => cases h
  | cons p r ih =>
    unfold NdK at nd
    rw [List.map_cons, List.nodup_cons] at nd
    cases j with
    | zero =>
      simp only [List.getElem?_cons_zero, Option.some.injEq] at h
      subst h
      rw [List.eraseIdx_cons_zero, List.filter_cons_of_neg (by simp)]
      refine (List.filter_eq_self.2 fun q hq => ?_).symm
      have : q.1 ≠ x := fun e => nd.1 (List.mem_map.2 ⟨q, hq, e⟩)
      simp [this]
    | succ j =>
      simp only [List.getElem?_cons_succ] at h
      have hne : p.1 ≠ x := fun e => nd.1 (by rw [e]; exact List.mem_map.2 ⟨_, List.mem_of_getElem? h, rfl⟩)
      rw [List.eraseIdx_cons_succ, List.filter_cons_of_pos (by simp [hne]), ih nd.2 h]
theorem delK_none {m : List (κ × β)} {x : κ} (h : ∀ p ∈ m, p.1 ≠ x) : delK m x = m := List.filter_eq_self.2 fun p hp => by simp [h p hp]
/-! ### the map's block -/
/-- the types of a map -/
structure KT (P : Program) (t k e : TypeId) (eK : κ → Value) (okK : κ → Prop) : Prop where
  und : P.underlying t = some (.map k e)
  kd : Maps.Keyed P k
  key : ∀ x, okK x → ∃ l, keyOf P k (eK x) = some l
  inj : ∀ x y, eK x = eK y → x = y
/-- block b is a map of these pairs -/
structure GM (w : World) (eK : κ → Value) (eV : β → Value) (okK : κ → Prop) (b : Nat) (m : List (κ × β)) : Prop where
  ok : ∀ p ∈ m, okK p.1
  nd : NdK m
  dat : ∃ es clock, w.heap[b]? = some (.map es clock) ∧ MapKept.Stamped es clock ∧ es.toList.map (fun e => (e.key, e.val)) = m.map fun p => (eK p.1, eV p.2)
variable {P : Program} {t k e : TypeId} {eK : κ → Value} {eV : β → Value} {okK : κ → Prop} {w : World} {b : Nat} {m : List (κ × β)}
theorem GM.new (w : World) : GM (w.alloc (.map #[] 0)) eK eV okK w.heap.size [] :=
  ⟨by simp, by simp [NdK], #[], 0, (MapKept.heap_alloc w _).1, MapKept.stamped_empty 0, rfl⟩
theorem GM.lt (h : GM w eK eV okK b m) : b < w.heap.size := by
  obtain ⟨es, clock, hb, _⟩ := h.dat
  exact (Array.getElem?_eq_some_iff.1 hb).1
theorem GM.keeps {S : Nat → Prop} {w' : World} (h : GM w eK eV okK b m) (hk : Keeps S w w') (hb : ¬ S b) : GM w' eK eV okK b m := by
  have hlt := h.lt
  obtain ⟨es, clock, hh, r⟩ := h.dat
  exact ⟨h.ok, h.nd, es, clock, (hk.block b hlt hb).trans hh, r⟩
theorem GM.below {w' : World} (h : GM w eK eV okK b m) (hb : Below w.heap.size w w') : GM w' eK eV okK b m := h.keeps (S := fun _ => False) (.of_below hb) id
theorem GM.not_cells {cs : Array Value} {t : TypeId} (h : GM w eK eV okK b m) (hc : HB w b cs t) : False := by
  obtain ⟨es, clock, hh, r⟩ := h.dat
  have := hh.symm.trans hc
  cases this
theorem at_pair {es : List MapEntry} (he : es.map (fun e => (e.key, e.val)) = m.map fun p => (eK p.1, eV p.2)) {j : Nat} {e0 : MapEntry} (hj : es[j]? = some e0) : ∃ x v, m[j]? = some (x, v) ∧ e0.key = eK x ∧ e0.val = eV v := by
  have h := congrArg (·[j]?) he
  simp only [List.getElem?_map, hj, Option.map_some] at h
  cases hm : m[j]? with
  | none => rw [hm] at h; cases h
  | some p =>
    rw [hm] at h
    simp only [Option.map_some, Option.some.injEq, Prod.mk.injEq] at h
    exact ⟨p.1, p.2, rfl, h.1, h.2⟩
theorem keys_ok (T : KT P t k e eK okK) (ok : ∀ p ∈ m, okK p.1) {es : List MapEntry} (he : es.map (fun e => (e.key, e.val)) = m.map fun p => (eK p.1, eV p.2)) : ∀ x ∈ es, ∃ l, keyOf P k x.key = some l := fun x hx => by
  obtain ⟨j, hj, rfl⟩ := List.getElem_of_mem hx
  obtain ⟨y, v, hm, hk, _⟩ := at_pair he (List.getElem?_eq_getElem hj)
  rw [hk]; exact T.key y (ok _ (List.mem_of_getElem? hm))
theorem GM.run_look (T : KT P t k e eK okK) (h : GM w eK eV okK b m) (c : Bool) {x : κ} (hx : okK x) {z : Value} (hz : (zeroValue e).run P w = .ok z w) :
    (Instr.lookup t (.map (some b)) (eK x) c).run P w = .ok (match lk m x with | some v => if c then .tuple #[eV v, .bool true] else eV v | none => if c then .tuple #[z, .bool false] else z) w := by
  obtain ⟨es, clock, hb, hst, he⟩ := h.dat
  obtain ⟨l, hl⟩ := T.key x hx
  rcases T.kd.find w hl es.toList (keys_ok T h.ok he) with ⟨h1, h2⟩ | ⟨j, e0, h1, h2, h3⟩
  · have : lk m x = none := lk_none fun p hp e' => by
      obtain ⟨j, hj, rfl⟩ := List.getElem_of_mem hp
      have hlen := congrArg List.length he
      simp only [List.length_map] at hlen
      have hj' : j < es.toList.length := by omega
      obtain ⟨y, v, hm, hk, _⟩ := at_pair he (List.getElem?_eq_getElem hj')
      rw [List.getElem?_eq_getElem hj] at hm
      injection hm with hm
      refine h2 _ (List.getElem_mem hj') ?_
      rw [hk, ← e', hm]
    rw [this]
    simp [Instr.lookup, run_underlying T.und, MapKept.run_getObj_map hb, T.kd.check w _ hl, h1, hz, Result.andThen]
  · obtain ⟨y, v, hm, hk, hv⟩ := at_pair he h2
    have hy : y = x := T.inj _ _ (hk.symm.trans h3)
    subst hy
    rw [lk_mem h.nd (List.mem_of_getElem? hm)]
    simp [Instr.lookup, run_underlying T.und, MapKept.run_getObj_map hb, T.kd.check w _ hl, h1, hv, Result.andThen]
theorem GM.look (T : KT P t k e eK okK) (h : GM w eK eV okK b m) {x : κ} (hx : okK x) {z : Value} (hz : (zeroValue e).run P w = .ok z w) {K : Value → World → Prop}
    (hk : K (match lk m x with | some v => eV v | none => z) w) : Runs P (Instr.lookup t (.map (some b)) (eK x) false) w K := by
  refine runs_of (h.run_look T false hx hz) ?_
  cases hq : lk m x <;> rw [hq] at hk <;> exact hk
theorem GM.look2 (T : KT P t k e eK okK) (h : GM w eK eV okK b m) {x : κ} (hx : okK x) {z : Value} (hz : (zeroValue e).run P w = .ok z w) {K : Value → World → Prop}
    (hk : K (match lk m x with | some v => .tuple #[eV v, .bool true] | none => .tuple #[z, .bool false]) w) : Runs P (Instr.lookup t (.map (some b)) (eK x) true) w K := by
  refine runs_of (h.run_look T true hx hz) ?_
  cases hq : lk m x <;> rw [hq] at hk <;> exact hk
theorem GM.len (T : KT P t k e eK okK) (h : GM w eK eV okK b m) {ty : TypeId} {K : Value → World → Prop} (hk : K (.int .i64 (m.length : Int)) w) :
    Runs P (Builtin.len_ #[t] ty #[.map (some b)]) w K := by
  obtain ⟨es, clock, hb, hst, he⟩ := h.dat
  have hlen := congrArg List.length he
  simp only [List.length_map, Array.length_toList] at hlen
  refine runs_of (w' := w) (a := .int .i64 (m.length : Int)) ?_ hk
  rw [← hlen]
  simp [Builtin.len_, run_underlying T.und, MapKept.run_getObj_map hb, goInt, Result.andThen]
theorem keeps_setBlock {w : World} {b : Nat} {o o' : Obj} (hb : w.heap[b]? = some o) : Keeps (fun k => k = b) w (setBlock w b o') :=
  ⟨rfl, rfl, rfl, by simp [setBlock], fun i _ hi => sb_other hi⟩
theorem GM.upd (T : KT P t k e eK okK) (h : GM w eK eV okK b m) {x : κ} (hx : okK x) {v : β} {K : Unit → World → Prop}
    (hk : ∀ w', GM w' eK eV okK b (putK m x v) → Keeps (fun k => k = b) w w' → K () w') : Runs P (Instr.mapUpdate t (.map (some b)) (eK x) (eV v)) w K := by
  obtain ⟨es, clock, hb, hst, he⟩ := h.dat
  obtain ⟨l, hl⟩ := T.key x hx
  have ok' : ∀ p ∈ putK m x v, okK p.1 := fun p hp => by
    have : p.1 ∈ (putK m x v).map (·.1) := List.mem_map_of_mem hp
    rw [keys_putK] at this
    have h1 : ∀ y ∈ m.map (·.1), okK y := fun y hy => by
      obtain ⟨q, hq, rfl⟩ := List.mem_map.1 hy
      exact h.ok q hq
    split at this
    · exact h1 _ this
    · rcases List.mem_append.1 this with h2 | h2
      · exact h1 _ h2
      · have : p.1 = x := by simpa using h2
        rw [this]; exact hx
  rcases T.kd.find w hl es.toList (keys_ok T h.ok he) with ⟨h1, h2⟩ | ⟨j, e0, h1, h2, h3⟩
  · have hno : hasK m x = false := by
      rw [Bool.eq_false_iff]
      intro hh
      obtain ⟨u, hu⟩ := hasK_iff.1 hh
      obtain ⟨j, hj, hju⟩ := List.getElem_of_mem hu
      have hlen := congrArg List.length he
      simp only [List.length_map] at hlen
      have hj' : j < es.toList.length := by omega
      obtain ⟨y, v, hm, hk, _⟩ := at_pair he (List.getElem?_eq_getElem hj')
      rw [List.getElem?_eq_getElem hj, hju] at hm
      injection hm with hm
      injection hm with hm1 hm2
      exact h2 _ (List.getElem_mem hj') (by rw [hk, hm1])
    refine runs_of (a := ()) (w' := setBlock w b (.map (es.push ⟨eK x, eV v, clock⟩) (clock + 1))) ?_ (hk _ ⟨ok', h.nd.put x v, _, _, sb_same hb, MapKept.stamped_push hst h2, ?_⟩ (keeps_setBlock hb))
    · simp [Instr.mapUpdate, run_underlying T.und, MapKept.run_getObj_map hb, T.kd.check w false hl, h1, MapKept.run_setObj_map _ hb, Result.andThen, setBlock]
    · unfold putK
      rw [hno]
      simp [he]
  · obtain ⟨y, u, hm, hky, hv⟩ := at_pair he h2
    have hy : y = x := T.inj _ _ (hky.symm.trans h3)
    subst hy
    have hj : es[j]? = some e0 := by simpa using h2
    have hkeyf : ∀ e' ∈ es.toList, es[j]? = some e' → ({ e' with key := eK y, val := eV v } : MapEntry).key = e'.key := fun e' _ he' => by rw [hj] at he'; cases he'; exact h3.symm
    refine runs_of (a := ()) (w' := setBlock w b (.map (es.modify j (fun e' => { e' with key := eK y, val := eV v })) clock)) ?_ (hk _ ⟨ok', h.nd.put y v, _, _, sb_same hb, MapKept.stamped_modify hst _ _ (fun _ _ => rfl) hkeyf, ?_⟩ (keeps_setBlock hb))
    · simp [Instr.mapUpdate, run_underlying T.und, MapKept.run_getObj_map hb, T.kd.check w false hl, h1, hj, h3, T.kd.stays w hl, MapKept.run_setObj_map _ hb, Result.andThen, setBlock]
    · rw [← set_putK h.nd hm, Array.toList_modify, ChangeMaps.modify_eq_set _ _ _ _ h2, List.map_set, he, List.map_set]
theorem GM.del (T : KT P t k e eK okK) (h : GM w eK eV okK b m) {x : κ} (hx : okK x) {ty : TypeId} {K : Value → World → Prop}
    (hk : ∀ w', GM w' eK eV okK b (delK m x) → Keeps (fun k => k = b) w w' → K (.tuple #[]) w') : Runs P (Builtin.delete_ #[t, k] ty #[.map (some b), eK x]) w K := by
  obtain ⟨es, clock, hb, hst, he⟩ := h.dat
  obtain ⟨l, hl⟩ := T.key x hx
  have ok' : ∀ p ∈ delK m x, okK p.1 := fun p hp => h.ok p (List.mem_filter.1 hp).1
  rcases T.kd.find w hl es.toList (keys_ok T h.ok he) with ⟨h1, h2⟩ | ⟨j, e0, h1, h2, h3⟩
  · have hno : ∀ p ∈ m, p.1 ≠ x := fun p hp e' => by
      obtain ⟨j, hj, hju⟩ := List.getElem_of_mem hp
      have hlen := congrArg List.length he
      simp only [List.length_map] at hlen
      have hj' : j < es.toList.length := by omega
      obtain ⟨y, v, hm, hk, _⟩ := at_pair he (List.getElem?_eq_getElem hj')
      rw [List.getElem?_eq_getElem hj, hju] at hm
      injection hm with hm
      exact h2 _ (List.getElem_mem hj') (by rw [hk, ← e', hm])
    refine runs_of (a := .tuple #[]) (w' := setBlock w b (.map es clock)) ?_ (hk _ ⟨ok', h.nd.del x, _, _, sb_same hb, hst, ?_⟩ (keeps_setBlock hb))
    · simp [Builtin.delete_, run_underlying T.und, MapKept.run_getObj_map hb, T.kd.check w _ hl, h1, MapKept.run_setObj_map _ hb, Result.andThen, setBlock]
    · rw [delK_none hno, he]
  · obtain ⟨y, u, hm, hky, hv⟩ := at_pair he h2
    have hy : y = x := T.inj _ _ (hky.symm.trans h3)
    subst hy
    have hjl : j < es.toList.length := (List.getElem?_eq_some_iff.1 h2).1
    have hjs : j < es.size := by simpa using hjl
    have hsub : (es.eraseIdxIfInBounds j).toList = es.toList.eraseIdx j := by
      unfold Array.eraseIdxIfInBounds
      rw [dif_pos hjs]
      simp
    refine runs_of (a := .tuple #[]) (w' := setBlock w b (.map (es.eraseIdxIfInBounds j) clock)) ?_ (hk _ ⟨ok', h.nd.del y, _, _, sb_same hb, MapKept.stamped_erase hst j, ?_⟩ (keeps_setBlock hb))
    · simp [Builtin.delete_, run_underlying T.und, MapKept.run_getObj_map hb, T.kd.check w _ hl, h1, MapKept.run_setObj_map _ hb, Result.andThen, setBlock]
    · rw [hsub, ← erase_delK h.nd hm, ChangeMaps.map_eraseIdx, ChangeMaps.map_eraseIdx, he]
/-! ### a range over it -/
/-- block r goes over the map in block b; these are left; the one handed out last -/
structure GI (w : World) (eK : κ → Value) (eV : β → Value) (okK : κ → Prop) (b r : Nat) (m left : List (κ × β)) (cur : Option (κ × β)) : Prop where
  ok : ∀ p ∈ m, okK p.1
  nd : NdK m
  sub : ∀ p ∈ left, p ∈ m
  curL : ∀ p, cur = some p → ∀ q ∈ left, q.1 ≠ p.1
  dat : ∃ (es : Array MapEntry) (clock since : Nat) (seen : Array Nat) (last : Nat), w.heap[b]? = some (.map es clock) ∧ MapKept.Stamped es clock ∧ es.toList.map (fun e => (e.key, e.val)) = m.map (fun p => (eK p.1, eV p.2)) ∧
    w.heap[r]? = some (.mapIter (some b) since seen last) ∧ (∀ x ∈ es.toList, x.born < since) ∧ since ≤ last ∧ since ≤ clock ∧ (leftOf es seen).toList.map (fun e => (e.key, e.val)) = left.map (fun p => (eK p.1, eV p.2)) ∧
    ∀ p, cur = some p → p ∈ m ∧ ∃ e0 ∈ es.toList, e0.key = eK p.1 ∧ e0.val = eV p.2 ∧ (∃ s : Array Nat, seen = s.push e0.born) ∧ last = clock
variable {r : Nat} {left : List (κ × β)} {cur : Option (κ × β)}
theorem GI.gm (h : GI w eK eV okK b r m left cur) : GM w eK eV okK b m := by
  obtain ⟨es, clock, since, seen, last, hb, hst, he, _⟩ := h.dat
  exact ⟨h.ok, h.nd, es, clock, hb, hst, he⟩
theorem GI.lt (h : GI w eK eV okK b r m left cur) : r < w.heap.size := by
  obtain ⟨es, clock, since, seen, last, hb, hst, he, hr, _⟩ := h.dat
  exact (Array.getElem?_eq_some_iff.1 hr).1
theorem GI.keeps {S : Nat → Prop} {w' : World} (h : GI w eK eV okK b r m left cur) (hk : Keeps S w w') (hb : ¬ S b) (hr : ¬ S r) : GI w' eK eV okK b r m left cur := by
  have h1 := h.gm.lt
  have h2 := h.lt
  obtain ⟨es, clock, since, seen, last, hbb, hst, he, hrr, x⟩ := h.dat
  exact ⟨h.ok, h.nd, h.sub, h.curL, es, clock, since, seen, last, (hk.block b h1 hb).trans hbb, hst, he, (hk.block r h2 hr).trans hrr, x⟩
theorem GI.below {w' : World} (h : GI w eK eV okK b r m left cur) (hb : Below w.heap.size w w') : GI w' eK eV okK b r m left cur := h.keeps (S := fun _ => False) (.of_below hb) id id
theorem GM.range (T : KT P t k e eK okK) (h : GM w eK eV okK b m) {K : Value → World → Prop}
    (hk : ∀ w' r, r = w.heap.size → w'.heap.size = r + 1 → GI w' eK eV okK b r m m none → Below w.heap.size w w' → K (.pointer (some ⟨r, 0, none⟩)) w') : Runs P (Instr.range t (.map (some b))) w K := by
  obtain ⟨es, clock, hb, hst, he⟩ := h.dat
  refine runs_of (run_range_map w t k e b es clock T.und hb) (hk _ _ rfl (by simp) ⟨h.ok, h.nd, fun p hp => hp, (fun p hp => by cases hp), es, clock, clock, #[], clock, ?_, hst, he, heap_alloc_new w _, fun x hx => hst.1 x hx, Nat.le_refl _, Nat.le_refl _, ?_, fun p hp => by cases hp⟩ ((Below.refl _ _).alloc (Nat.le_refl _) _))
  · rw [heap_alloc_old w _ h.lt]; exact hb
  · have : leftOf es #[] = es := by
      unfold leftOf
      exact Array.filter_eq_self.2 fun x hx => by simp
    rw [this]; exact he
theorem GI.next (h : GI w eK eV okK b r m left cur) {ty : TypeId} {K : Value → World → Prop}
    (h0 : left = [] → K (.tuple #[.bool false]) w)
    (h1 : ∀ x v w', (x, v) ∈ left → GI w' eK eV okK b r m (delK left x) (some (x, v)) → (delK left x).length < left.length → Keeps (fun k => k = r) w w' → w'.heap.size = w.heap.size → K (.tuple #[.bool true, eK x, eV v]) w')
    (inj : ∀ x y, eK x = eK y → x = y) : Runs P (Instr.next (.pointer (some ⟨r, 0, none⟩)) false ty) w K := by
  obtain ⟨es, clock, since, seen, last, hb, hst, he, hr, hold, hsl, hsc, hl, _⟩ := h.dat
  have ndl : NdK left := by
    -- the left entries stand in the map, each once
    have hs : ((leftOf es seen).toList.map fun e => (e.key, e.val)).Sublist (es.toList.map fun e => (e.key, e.val)) := by
      unfold leftOf
      rw [Array.toList_filter]
      exact List.filter_sublist.map _
    rw [hl, he] at hs
    have hk1 : (left.map fun p => (eK p.1, eV p.2)).map (·.1) = (left.map (·.1)).map eK := by simp
    have hk2 : (m.map fun p => (eK p.1, eV p.2)).map (·.1) = (m.map (·.1)).map eK := by simp
    have h3 := hs.map (·.1)
    rw [hk1, hk2] at h3
    have h4 : ((m.map (·.1)).map eK).Nodup := by
      have := h.nd
      unfold NdK at this
      exact List.pairwise_map.2 (this.imp fun hne e => hne (inj _ _ e))
    have h5 := h4.sublist h3
    exact (List.pairwise_map.1 h5).imp fun hne e => hne (by rw [e])
  rcases run_next_at (P := P) w ty r b since last seen es clock hr hb hold hsl with ⟨hz, hrun⟩ | ⟨e0, he0, w1, hw1, hrun⟩
  · refine runs_of hrun (h0 ?_)
    have : (leftOf es seen).toList.length = left.length := by simpa using congrArg List.length hl
    rw [Array.length_toList, hz] at this
    exact List.length_eq_zero_iff.1 this.symm
  · obtain ⟨j, hj, hje⟩ := List.getElem_of_mem he0
    obtain ⟨x, v, hm, hky, hv⟩ := at_pair hl (List.getElem?_eq_getElem hj)
    rw [hje] at hky hv
    have hmem : (x, v) ∈ left := List.mem_of_getElem? hm
    rw [hky, hv] at hrun
    have hes : e0 ∈ es.toList := by
      unfold leftOf at he0
      rw [Array.toList_filter] at he0
      exact (List.mem_filter.1 he0).1
    have hhr : w1.heap[r]? = some (.mapIter (some b) since seen last) := by rcases hw1 with rfl | rfl <;> exact hr
    have hhb : w1.heap[b]? = some (.map es clock) := by rcases hw1 with rfl | rfl <;> exact hb
    have hbr : b ≠ r := fun e' => by
      subst e'
      have := hhr.symm.trans hhb
      cases this
    have hsz : w1.heap.size = w.heap.size := by rcases hw1 with rfl | rfl <;> rfl
    have k1 : Keeps (fun k => k = r) w w1 := by
      rcases hw1 with rfl | rfl
      · exact .refl _ _
      · exact (Keeps.refl _ _).drew
    refine runs_of hrun (h1 x v _ hmem ⟨h.ok, h.nd, fun p hp => h.sub p (List.mem_filter.1 hp).1, ?_, es, clock, since, seen.push e0.born, clock, ?_, hst, he, sb_same hhr, hold, hsc, hsc, ?_, ?_⟩ ?_ (k1.trans (keeps_setBlock hhr)) ?_)
    · rintro p hp q hq
      injection hp with hp; subst hp
      have := (List.mem_filter.1 hq).2
      simpa using this
    · rw [sb_other hbr]; exact hhb
    · have e2 : (leftOf es (seen.push e0.born)).toList = (leftOf es seen).toList.filter (fun y => !decide (y.born = e0.born)) := by
        unfold leftOf
        rw [Array.toList_filter, Array.toList_filter, List.filter_filter]
        refine List.filter_congr fun y hy => ?_
        simp only [Array.contains_push]
        by_cases h5 : y.born = e0.born <;> simp [h5]
      rw [e2]
      have hbn : ∀ y ∈ (leftOf es seen).toList, (y.born = e0.born ↔ y.key = e0.key) := by
        intro y hy
        have hye : y ∈ es.toList := by
          unfold leftOf at hy
          rw [Array.toList_filter] at hy
          exact (List.mem_filter.1 hy).1
        obtain ⟨s1, s2, s3⟩ := (MapKept.stamped_iff es clock).1 hst
        constructor
        · intro hb'
          by_cases hy0 : y = e0
          · rw [hy0]
          · exact absurd hb' (by
              have := List.pairwise_map.1 s2
              exact (pw_mem this hye hes).elim (fun h => absurd h hy0) fun h => h.elim id Ne.symm)
        · intro hb'
          by_cases hy0 : y = e0
          · rw [hy0]
          · exact absurd hb' ((pw_mem s3 hye hes).elim (fun h => absurd h hy0) fun h => h.elim id Ne.symm)
      unfold delK
      have gen : ∀ (L : List MapEntry) (l : List (κ × β)), L.map (fun e => (e.key, e.val)) = l.map (fun p => (eK p.1, eV p.2)) → (∀ y ∈ L, (y.born = e0.born ↔ y.key = e0.key)) →
          (L.filter fun y => !decide (y.born = e0.born)).map (fun e => (e.key, e.val)) = (l.filter fun p => !decide (p.1 = x)).map (fun p => (eK p.1, eV p.2)) := by
        intro L
        induction L with
        | nil => intro l hl _; cases l with | nil => rfl | cons p l => cases hl
        | cons y L ih =>
          intro l hl hL
          cases l with
          | nil => cases hl
          | cons p l =>
            simp only [List.map_cons, List.cons.injEq] at hl
            have h6 := ih l hl.2 fun y hy => hL y (by simp [hy])
            have h7 : y.key = eK p.1 := (Prod.mk.inj hl.1).1
            by_cases h8 : p.1 = x
            · have : y.born = e0.born := (hL y (by simp)).2 (by rw [h7, h8, hky])
              rw [List.filter_cons_of_neg (by simp [this]), List.filter_cons_of_neg (by simp [h8]), h6]
            · have : ¬ y.born = e0.born := fun h9 => h8 (inj _ _ (by rw [← h7, (hL y (by simp)).1 h9, hky]))
              rw [List.filter_cons_of_pos (by simp [this]), List.filter_cons_of_pos (by simp [h8]), List.map_cons, List.map_cons, h6, hl.1]
      exact gen _ _ hl hbn
    · rintro p hp
      injection hp with hp; subst hp
      exact ⟨h.sub _ hmem, e0, hes, hky, hv, ⟨seen, rfl⟩, rfl⟩
    · have hh : (delK left x).length < left.length := by
        unfold delK
        exact List.length_filter_lt_length_iff_exists.2 ⟨_, hmem, by simp⟩
      exact hh
    · simp [setBlock, hsz]
theorem GI.entry {x : κ} {v : β} (h : GI w eK eV okK b r m left (some (x, v))) {K : Value → World → Prop} (hk : K (.tuple #[eK x, eV v]) w) : Runs P (Instr.entry (.pointer (some ⟨r, 0, none⟩))) w K := by
  obtain ⟨es, clock, since, seen, last, hb, hst, he, hr, hold, hsl, hsc, hl, hc⟩ := h.dat
  obtain ⟨_, e0, h0, hky, hv, ⟨s, hs⟩, hlast⟩ := hc _ rfl
  subst hs
  rw [hlast] at hr
  have := run_entry_at (P := P) w r b since s es clock e0 hr hb h0 ((MapKept.stamped_iff es clock).1 hst).2.1
  rw [hky, hv] at this
  exact runs_of this hk
/-- the entry that was handed out last is struck -/
theorem GI.del {x : κ} {v : β} (T : KT P t k e eK okK) (h : GI w eK eV okK b r m left (some (x, v))) {ty : TypeId} {K : Value → World → Prop}
    (hk : ∀ w', GI w' eK eV okK b r (delK m x) left none → Keeps (fun k => k = b) w w' → K (.tuple #[]) w') : Runs P (Builtin.delete_ #[t, k] ty #[.map (some b), eK x]) w K := by
  obtain ⟨es, clock, since, seen, last, hb, hst, he, hr, hold, hsl, hsc, hl, hc⟩ := h.dat
  obtain ⟨hm, e0, h0, hky, hv, ⟨s, hs⟩, hlast⟩ := hc _ rfl
  subst hs
  rw [hlast] at hr
  have hx : okK x := h.ok _ hm
  obtain ⟨l, hlx⟩ := T.key x hx
  have hbr : b ≠ r := fun e' => by
    subst e'
    have := hr.symm.trans hb
    cases this
  rcases T.kd.find w hlx es.toList (keys_ok T h.ok he) with ⟨h1, h2⟩ | ⟨j, e1, h1, h2, h3⟩
  · exact absurd hky (h2 e0 h0)
  · have hjl : j < es.toList.length := (List.getElem?_eq_some_iff.1 h2).1
    have hjs : j < es.size := by simpa using hjl
    have hsub : (es.eraseIdxIfInBounds j).toList = es.toList.eraseIdx j := by
      unfold Array.eraseIdxIfInBounds
      rw [dif_pos hjs]
      simp
    have s3 := ((MapKept.stamped_iff es clock).1 hst).2.2
    have he01 : e0 = e1 := (pw_mem s3 h0 (List.mem_of_getElem? h2)).elim id fun h => absurd (hky.trans h3.symm) (h.elim id Ne.symm)
    subst he01
    obtain ⟨y, u, hmj, hkyj, hvj⟩ := at_pair he h2
    have hy : y = x := T.inj _ _ (hkyj.symm.trans h3)
    subst hy
    have hleft : (leftOf (es.eraseIdxIfInBounds j) (s.push e0.born)).toList = (leftOf es (s.push e0.born)).toList := by
      unfold leftOf
      rw [Array.toList_filter, Array.toList_filter, hsub, List.eraseIdx_eq_take_drop_succ]
      conv => rhs; rw [← List.take_append_drop j es.toList, List.filter_append, List.drop_eq_getElem_cons hjl]
      rw [List.filter_append]
      congr 1
      have : es.toList[j] = e0 := by rw [List.getElem?_eq_getElem hjl] at h2; injection h2
      rw [this, List.filter_cons_of_neg (by simp)]
    refine runs_of (a := .tuple #[]) (w' := setBlock w b (.map (es.eraseIdxIfInBounds j) clock)) ?_ (hk _ ⟨fun p hp => h.ok p (List.mem_filter.1 hp).1, h.nd.del y, fun p hp => ?_, (fun p hp => by cases hp), es.eraseIdxIfInBounds j, clock, since, s.push e0.born, clock, sb_same hb, MapKept.stamped_erase hst j, ?_, ?_, fun z hz => ?_, hsc, hsc, ?_, fun p hp => by cases hp⟩ (keeps_setBlock hb))
    · simp [Builtin.delete_, run_underlying T.und, MapKept.run_getObj_map hb, T.kd.check w _ hlx, h1, MapKept.run_setObj_map _ hb, Result.andThen, setBlock]
    · refine List.mem_filter.2 ⟨h.sub p hp, ?_⟩
      have := h.curL _ rfl p hp
      simpa using this
    · rw [hsub, ← erase_delK h.nd hmj, ChangeMaps.map_eraseIdx, ChangeMaps.map_eraseIdx, he]
    · rw [sb_other (Ne.symm hbr)]; exact hr
    · rw [hsub] at hz
      exact hold z ((List.eraseIdx_sublist _ _).subset hz)
    · rw [hleft]; exact hl
end
end Go.Dn
