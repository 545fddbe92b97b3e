/- bytes.Replace: every old text by a new one, where it is told where they stand. Conditions: sizes below 2^47. -/
import Derived.Laws.IdiomCopy
import Derived.Lib.SliceRun
import Derived.Laws.Externs
import Derived.Lib.BytesEntry
import Derived.Shelf.Bytes.SlCountOne
import Derived.Lib.AppendZerosOnto
import Derived.Test.YtakgoekfnhkgaaaDoorKeB
namespace Go.Proofs.YtakgoekfnhkgaaaDoor.Rd
open Go.Dn Go.RowKit Go.Lib
set_option linter.unusedVariables false
set_option linter.unusedSimpArgs false
set_option maxRecDepth 100000
/-- a block of bytes -/
def BB (w : World) (b : Nat) (l : List UInt8) : Prop := HB w b (l.map byteV).toArray TU8
theorem BB.rb {w : World} {b : Nat} {l : List UInt8} (h : BB w b l) : Go.Dn.RB w (some ⟨b, 0, none⟩) l := fun i hi => ⟨_, rfl, by rw [HB.cell h]; simp [hi]⟩
theorem BB.below {w w' : World} {b : Nat} {l : List UInt8} (h : BB w b l) (k : Below w.heap.size w w') : BB w' b l := HB.below h k
theorem bb_st {w : World} {b i : Nat} {l : List UInt8} (h : BB w b l) (hi : i < l.length) {x : Int} {v : UInt8} (hx : x = (v.toNat : Int)) {K : World → Prop} (hk : ∀ w', BB w' b (l.set i v) → Keeps (fun k => k = b) w w' → K w') : stW w ((⟨b, 0, none⟩ : Addr).add i) (.int .u8 x) K := by
  refine hb_st h (by simpa using hi) fun w' h' k' => hk w' ?_ k'
  subst hx
  unfold BB
  rw [List.map_set]
  simpa [byteV] using h'
theorem mk_bytes {w : World} {n : Nat} (hn : n ≤ 16777216) {K : Value → World → Prop} (hK : ∀ w', BB w' w.heap.size (List.replicate n 0) → Below w.heap.size w w' → w'.heap.size = w.heap.size + 1 ∨ True → K (.slice (some ⟨w.heap.size, 0, none⟩) n n) w') :
    Runs Tryd.prog (Instr.makeSlice 24 (.int .i64 (n : Int)) (.int .i64 (n : Int))) w K := by
  obtain ⟨i, hi, hz, hs, hby⟩ := TBy.info
  obtain ⟨w1, hrun, ho, hg⟩ := run_makeSlice_full (P := Tryd.prog) w w.heap.size 24 5 i (.int .u8 0) 1 TBy.und hi hz hs .i64 .i64 n (by omega) (by rw [hby]; omega) (by unfold maxLen; omega) (Nat.le_refl _)
  have b1 : Below w.heap.size w w1 := ⟨hg.os, hg.tape, hg.output, hg.size, fun k hk => hg.block k hk (by simp)⟩
  refine runs_of hrun (hK w1 ?_ b1 (.inr trivial))
  obtain ⟨hl, h⟩ := ho
  rcases h with ⟨h, _⟩ | ⟨g, cap, cur, hv, hg, hh, hn, hm, hs, ht⟩
  · cases h
  · injection hv with hA hn' hc
    injection hA with hA
    injection hA with hA
    subst hA
    unfold BB HB
    rw [hh]
    congr 2
    apply Array.ext'
    rw [← hc, ← Array.length_toList] at hs
    rw [List.take_of_length_le (by rw [hs]; omega)] at ht
    rw [ht]
    simp only [Nat.mul_one, List.map_replicate]
    apply List.ext_getElem
    · simp [size_madeCells]
    · intro j h1 h2
      simp [madeCells, Value.cells, byteV, Nat.mod_one]
theorem copy_bb {w : World} {b off : Nat} {cur : List UInt8} (hb : BB w b cur) {A : Option Addr} {l : List UInt8} {n c m cc : Nat} (hn : n = l.length) (hr : Go.Dn.RB w A l) (hm : m = cur.length - off) (hl : off + l.length ≤ cur.length) {K : Value → World → Prop} (hk : ∀ w', BB w' b (cur.take off ++ l ++ cur.drop (off + l.length)) → Keeps (fun k => k = b) w w' → K (.int .i64 (l.length : Int)) w') :
    Runs Tryd.prog (Builtin.copy_ #[24, 24] 3 #[.slice (some ⟨b, off, none⟩) m cc, .slice A n c]) w K := by
  subst hn
  have hu : Tryd.prog.underlying 24 = some (.slice 5) := by kernel_rfl
  have hs : (Tryd.prog.info? 5).map (·.size) = some 1 := by kernel_rfl
  by_cases h0 : l = []
  · subst h0
    have := run_copy_none (P := Tryd.prog) w 24 24 3 5 (some ⟨b, off, none⟩) A m cc 0 c hu hs (by simp)
    refine runs_of this (hk w ?_ (.refl _ _))
    simpa using hb
  · obtain ⟨a, ha, _⟩ := hr 0 (List.length_pos_iff.2 h0)
    subst ha
    have hmm : Nat.min l.length m = l.length := by show min l.length m = l.length; omega
    have := run_copy_row (P := Tryd.prog) w 24 24 3 5 b off m cc a l.length c (cur.map byteV).toArray TU8 (l.map byteV) hu hs hb (by rw [List.length_map, hmm]) (fun j v hj => by
      rw [List.getElem?_map] at hj
      obtain ⟨x, hx, rfl⟩ := Option.map_eq_some_iff.1 hj
      obtain ⟨hjl, rfl⟩ := List.getElem?_eq_some_iff.1 hx
      obtain ⟨a', ha', hc⟩ := hr j hjl
      injection ha' with ha'; subst ha'
      exact hc) (by rw [List.length_map]; simp; omega) (fun v hv => by obtain ⟨x, _, rfl⟩ := List.mem_map.1 hv; rfl)
    have e : ((cur.map byteV).toArray.toList.take off ++ l.map byteV ++ (cur.map byteV).toArray.toList.drop (off + (l.map byteV).length)).toArray = ((cur.take off ++ l ++ cur.drop (off + l.length)).map byteV).toArray := by
      simp [List.map_take, List.map_drop]
    rw [e] at this
    refine runs_of this ?_
    have := hk (w.setRow b ((cur.take off ++ l ++ cur.drop (off + l.length)).map byteV).toArray) (HB.setRow hb _) (setRow_keeps _ _ _)
    simpa [goInt] using this
theorem slA_some {g c i : Nat} (h : c ≠ i) : slA (some (⟨g, 0, none⟩ : Addr)) i c 1 = some ⟨g, i, none⟩ := by
  unfold slA
  rw [if_neg h, Option.map_some, add_mk]; simp
/-- bytes copied into a block from a place on -/
theorem copy_at {w : World} {g q N : Nat} {cur : List UInt8} (hb : BB w g cur) (hN : cur.length = N) {A : Option Addr} {l : List UInt8} {n c : Nat} (hn : n = l.length) (hr : Go.Dn.RB w A l) (hl : q + l.length ≤ N) {K : Value → World → Prop}
    (hk : ∀ w' cur', BB w' g cur' → cur'.length = N → cur'.take (q + l.length) = cur.take q ++ l → Keeps (fun k => k = g) w w' → K (.int .i64 (l.length : Int)) w') :
    Runs Tryd.prog (Builtin.copy_ #[24, 24] 3 #[.slice (slA (some (⟨g, 0, none⟩ : Addr)) q N 1) (N - q) (N - q), .slice A n c]) w K := by
  subst hN
  have hfin : ∀ w', BB w' g (cur.take q ++ l ++ cur.drop (q + l.length)) → Keeps (fun k => k = g) w w' → K (.int .i64 (l.length : Int)) w' := fun w' h k => by
    have e : (cur.take q ++ l).length = q + l.length := by rw [List.length_append, List.length_take]; omega
    refine hk w' _ h ?_ ?_ k
    · rw [List.length_append, e, List.length_drop]; omega
    · rw [← e]; exact List.take_left
  by_cases h : cur.length = q
  · have h0 : l = [] := List.length_eq_zero_iff.1 (by omega)
    have hu : Tryd.prog.underlying 24 = some (.slice 5) := by kernel_rfl
    have hs : (Tryd.prog.info? 5).map (·.size) = some 1 := by kernel_rfl
    subst hn
    have := run_copy_none (P := Tryd.prog) w 24 24 3 5 (slA (some (⟨g, 0, none⟩ : Addr)) q cur.length 1) A (cur.length - q) (cur.length - q) l.length c hu hs (by rw [h0]; simp)
    refine runs_of this ?_
    have hf := hfin w (by rw [h0]; simpa using hb) (.refl _ _)
    rw [h0] at hf
    exact hf
  · rw [slA_some h]
    exact copy_bb hb hn hr rfl hl hfin
theorem BB.own {w : World} {g N : Nat} {l : List UInt8} {B : Nat} (h : BB w g l) (hN : l.length = N) (hB : B ≤ g) (hl : l.length ≤ 140737488355328) : OwnB w B TU8 (some ⟨g, 0, none⟩) N l := by
  subst hN
  refine ⟨by rw [List.length_map, Nat.mul_one], .inr ⟨g, _, _, rfl, hB, h, Nat.le_refl _, by unfold maxLen; omega, by simp, ?_⟩⟩
  rw [Nat.mul_one]
  have e : l.length = (l.map byteV).length := by rw [List.length_map]
  show ((l.map byteV).toArray.toList).take l.length = _
  rw [e, List.take_length]
/-- texts joined, each followed by o, and a last one -/
def J (o : List UInt8) : List (List UInt8) → List UInt8 → List UInt8
  | [], last => last
  | s :: r, last => s ++ (o ++ J o r last)
theorem J_len (o : List UInt8) : ∀ (r : List (List UInt8)) (last : List UInt8), (J o r last).length = (r.map List.length).sum + r.length * o.length + last.length
  | [], last => by simp [J]
  | s :: r, last => by
    rw [J, List.length_append, List.length_append, J_len o r, List.map_cons, List.sum_cons, List.length_cons, Nat.add_mul]
    omega
theorem rb_sl {w : World} {A : Option Addr} {b : List UInt8} {f k c : Nat} (hr : Go.Dn.RB w A b) (hc : b.length ≤ c) : Go.Dn.RB w (slA A f c 1) ((b.drop f).take k) := fun i hi => by
  rw [List.length_take, List.length_drop] at hi
  obtain ⟨a, ea, h⟩ := hr (f + i) (by omega)
  refine ⟨a.add (f * 1), ?_, ?_⟩
  · unfold slA; rw [if_neg (by omega), ea]; rfl
  · rw [Go.Dn.add_add, Nat.mul_one, h, List.getElem_take, List.getElem_drop]
section
variable {w w0 : World} {A0 A1 A2 : Option Addr} {c0 c1 c2 g N : Nat} {l o nw last : List UInt8} {segs : List (List UInt8)}
/-- where the old text stands next -/
def Idx (X : World → Prop) (A0 A1 : Option Addr) (c0 c1 : Nat) (l o : List UInt8) (segs : List (List UInt8)) (last : List UInt8) : Prop :=
  ∀ (p : Nat) (s : List UInt8) (r : List (List UInt8)), l.drop p = J o (s :: r) last → (s :: r) <:+ segs → ∀ w', Go.Dn.RB w' A0 l → Go.Dn.RB w' A1 o → X w' →
    Calls Tryd.prog 77 #[.slice (slA A0 p c0 1) (l.length - p) (c0 - p), .slice A1 o.length c1] w' fun e w'' => e = .returned (.int .i64 (s.length : Int)) ∧ Below w'.heap.size w' w''
theorem Repl_l2 {X : World → Prop} (hX : ∀ a b, X a → Keeps (fun k => k = g) a b → X b) (hX0 : X w0) (hc : l.length ≤ c0) (hl : l.length ≤ 70368744177000) (hN : N ≤ 140737488355000) (hidx : Idx X A0 A1 c0 c1 l o segs last) {K0 : Int → Int → World → Prop} {M : Nat} :
    ∀ (rs : List (List UInt8)) (i p q : Nat) (w : World) (cur : List UInt8), i + rs.length = M → M ≤ 70368744177000 → rs <:+ segs → l.drop p = J o rs last → p ≤ l.length → BB w g cur → cur.length = N → q + (J nw rs last).length = N → Go.Dn.RB w A0 l → Go.Dn.RB w A1 o → Go.Dn.RB w A2 nw → (∀ a, A0 = some a → a.block ≠ g) → (∀ a, A1 = some a → a.block ≠ g) → (∀ a, A2 = some a → a.block ≠ g) → Keeps (fun k => k = g) w0 w →
      (∀ w' cur' q' p', BB w' g cur' → cur'.length = N → q' + last.length = N → l.drop p' = last → p' ≤ l.length → cur'.take q' ++ last = cur.take q ++ J nw rs last → Go.Dn.RB w' A0 l → Keeps (fun k => k = g) w0 w' → K0 (q' : Int) (p' : Int) w') →
      f_bytes_Replace.l2 (rs.length + 1) A0 l.length c0 A1 o.length c1 A2 nw.length c2 (some ⟨g, 0, none⟩) N N (q : Int) (p : Int) (M : Int) (i : Int) w K0 := by
  intro rs
  induction rs with
  | nil =>
    intro i p q w cur hi hM hsuf hd hp hb hcl hq r0 r1 r2 d0 d1 d2 k hK
    unfold f_bytes_Replace.l2
    rw [List.length_nil] at hi
    exact sel_f (by simp; omega) (hK w cur q p hb hcl hq hd hp rfl r0 k)
  | cons s rs ih =>
    intro i p q w cur hi hM hsuf hd hp hb hcl hq r0 r1 r2 d0 d1 d2 k hK
    rw [List.length_cons] at hi
    have hJ : (J nw (s :: rs) last).length = s.length + (nw.length + (J nw rs last).length) := by rw [J, List.length_append, List.length_append]
    have hJo : (J o (s :: rs) last).length = s.length + (o.length + (J o rs last).length) := by rw [J, List.length_append, List.length_append]
    have hdl : (l.drop p).length = l.length - p := List.length_drop
    rw [hd, hJo] at hdl
    rw [List.length_cons]
    unfold f_bytes_Replace.l2
    refine sel_t (by simp; omega) (req_intro (by simp; omega) ?_)
    rw [Int.toNat_natCast]
    refine (hidx p s rs hd hsuf w r0 r1 (hX _ _ hX0 k)).mono ?_
    rintro _ w1 ⟨rfl, g1⟩
    have gd : Below w.heap.size w w1.drew := g1.drew
    have hb1 := hb.below gd
    have q0 := r0.below gd (Nat.le_refl _)
    have q1 := r1.below gd (Nat.le_refl _)
    have q2 := r2.below gd (Nat.le_refl _)
    obtain ⟨w2, hw2⟩ : ∃ w2, w1.drew = w2 := ⟨_, rfl⟩
    refine ⟨_, rfl, drW_intro ?_⟩
    rw [hw2] at gd hb1 q0 q1 q2 ⊢
    have ez : IntKind.i64.wrap ((p : Int) + (s.length : Int)) = ((p + s.length : Nat) : Int) := by rw [w64_in (by omega)]; omega
    rw [ez]
    refine req_intro (by simp; omega) (req_intro (by simp; omega) (req_intro (by simp; omega) ?_))
    rw [Int.toNat_natCast, Int.toNat_natCast]
    have rs' : Go.Dn.RB w2 (slA A0 p c0 1) s := by
      have := rb_sl (f := p) (k := s.length) q0 hc
      rw [hd, J, List.take_left] at this; exact this
    refine copy_at hb1 hcl (by omega) rs' (by omega) fun w3 cur3 hb3 hc3 ht3 k3 => ⟨_, rfl, ?_⟩
    have ez2 : IntKind.i64.wrap ((q : Int) + (s.length : Int)) = ((q + s.length : Nat) : Int) := by rw [w64_in (by omega)]; omega
    rw [ez2]
    refine req_intro (by simp; omega) ?_
    rw [Int.toNat_natCast]
    have rk : ∀ {A : Option Addr} {x : List UInt8}, Go.Dn.RB w2 A x → (∀ a, A = some a → a.block ≠ g) → Go.Dn.RB w3 A x := fun h d => RBk h k3 fun a ha e => d a ha e
    refine copy_at hb3 hc3 rfl (rk q2 d2) (by omega) fun w4 cur4 hb4 hc4 ht4 k4 => ⟨_, rfl, ?_⟩
    have rk4 : ∀ {A : Option Addr} {x : List UInt8}, Go.Dn.RB w3 A x → (∀ a, A = some a → a.block ≠ g) → Go.Dn.RB w4 A x := fun h d => RBk h k4 fun a ha e => d a ha e
    rw [w64_in (x := ((q + s.length : Nat) : Int) + (nw.length : Int)) (by omega), w64_in (x := ((p + s.length : Nat) : Int) + (o.length : Int)) (by omega), w64_in (x := (i : Int) + 1) (by omega),
      show ((q + s.length : Nat) : Int) + (nw.length : Int) = ((q + s.length + nw.length : Nat) : Int) by omega, show ((p + s.length : Nat) : Int) + (o.length : Int) = ((p + s.length + o.length : Nat) : Int) by omega, show (i : Int) + 1 = ((i + 1 : Nat) : Int) by omega]
    have hd' : l.drop (p + s.length + o.length) = J o rs last := by
      rw [Nat.add_assoc, ← List.drop_drop, hd, J, ← List.append_assoc, ← List.length_append, List.drop_left]
    refine ih (i + 1) (p + s.length + o.length) (q + s.length + nw.length) w4 cur4 (by omega) hM ((List.suffix_cons s rs).trans hsuf) hd' (by omega) hb4 hc4 (by omega) (rk4 (rk q0 d0) d0) (rk4 (rk q1 d1) d1) (rk4 (rk q2 d2) d2) d0 d1 d2 (((k.trans (.of_below gd)).trans k3).trans k4) fun w' cur' q' p' h1 h2 h3 h4 h5 h6 h7 h8 => hK w' cur' q' p' h1 h2 h3 h4 h5 ?_ h7 h8
    rw [h6, ht4, ht3, J]
    simp only [List.append_assoc]
end
end Go.Proofs.YtakgoekfnhkgaaaDoor.Rd
