/- wal.build: a log sector made · wal's records and its log in memory; clone · wal.clone: records as new memory · wal: the log in memory; bytes appended · wal: outside, Format, lsn, step, Room, End, Safe, Reset -/
import Derived.Test.YtpokaafedpnbdaaDoorDkH
import Derived.Test.YtpokaafedpnbdaaDoorWxA
import Derived.Test.YtpokaafedpnbdaaDoorDkI
import Derived.Test.YtpokaafedpnbdaaDoorWxB
/-! wal.build: a log sector made. Conditions: the part used is at most 498 bytes. -/
namespace Go.Proofs.YtpokaafedpnbdaaDoor.Rd
open Go.Dn Go.RowKit Go.Shelf
set_option linter.unusedVariables false
set_option linter.unusedSimpArgs false
set_option maxRecDepth 100000
abbrev TU8 : TypeId := 5
/-- a block of bytes -/
def BB (w : World) (b : Nat) (l : List UInt8) : Prop := HB w b (l.map byteV).toArray TU8
theorem BB.rb {w : World} {b : Nat} {l : List UInt8} (h : BB w b l) : Go.Dn.RB w (some ⟨b, 0, none⟩) l := fun i hi => ⟨_, rfl, by rw [HB.cell h]; simp [hi]⟩
theorem BB.below {w w' : World} {b : Nat} {l : List UInt8} (h : BB w b l) (k : Below w.heap.size w w') : BB w' b l := HB.below h k
theorem bb_st {w : World} {b i : Nat} {l : List UInt8} (h : BB w b l) (hi : i < l.length) {x : Int} {v : UInt8} (hx : x = (v.toNat : Int)) {K : World → Prop} (hk : ∀ w', BB w' b (l.set i v) → Keeps (fun k => k = b) w w' → K w') : stW w ((⟨b, 0, none⟩ : Addr).add i) (.int .u8 x) K := by
  refine hb_st h (by simpa using hi) fun w' h' k' => hk w' ?_ k'
  subst hx
  unfold BB
  rw [List.map_set]
  simpa [byteV] using h'
theorem mk_bytes {w : World} {n : Nat} (hn : n ≤ 65536) {K : Value → World → Prop} (hK : ∀ w', BB w' w.heap.size (List.replicate n 0) → Below w.heap.size w w' → w'.heap.size = w.heap.size + 1 ∨ True → K (.slice (some ⟨w.heap.size, 0, none⟩) n n) w') :
    Runs Tryd.prog (Instr.makeSlice 29 (.int .i64 (n : Int)) (.int .i64 (n : Int))) w K := by
  obtain ⟨i, hi, hz, hs, hby⟩ := TBy.info
  obtain ⟨w1, hrun, ho, hg⟩ := run_makeSlice_full (P := Tryd.prog) w w.heap.size 29 5 i (.int .u8 0) 1 TBy.und hi hz hs .i64 .i64 n (by omega) (by rw [hby]; omega) (by unfold maxLen; omega) (Nat.le_refl _)
  have b1 : Below w.heap.size w w1 := ⟨hg.os, hg.tape, hg.output, hg.size, fun k hk => hg.block k hk (by simp)⟩
  refine runs_of hrun (hK w1 ?_ b1 (.inr trivial))
  obtain ⟨hl, h⟩ := ho
  rcases h with ⟨h, _⟩ | ⟨g, cap, cur, hv, hg, hh, hn, hm, hs, ht⟩
  · cases h
  · injection hv with hA hn' hc
    injection hA with hA
    injection hA with hA
    subst hA
    unfold BB HB
    rw [hh]
    congr 2
    apply Array.ext'
    rw [← hc, ← Array.length_toList] at hs
    rw [List.take_of_length_le (by rw [hs]; omega)] at ht
    rw [ht]
    simp only [Nat.mul_one, List.map_replicate]
    apply List.ext_getElem
    · simp [size_madeCells]
    · intro j h1 h2
      simp [madeCells, Value.cells, byteV, Nat.mod_one]
theorem copy_bb {w : World} {b off : Nat} {cur : List UInt8} (hb : BB w b cur) {A : Option Addr} {l : List UInt8} {n c m cc : Nat} (hn : n = l.length) (hr : Go.Dn.RB w A l) (hm : m = cur.length - off) (hl : off + l.length ≤ cur.length) {K : Value → World → Prop} (hk : ∀ w', BB w' b (cur.take off ++ l ++ cur.drop (off + l.length)) → Keeps (fun k => k = b) w w' → K (.int .i64 (l.length : Int)) w') :
    Runs Tryd.prog (Builtin.copy_ #[29, 29] 3 #[.slice (some ⟨b, off, none⟩) m cc, .slice A n c]) w K := by
  subst hn
  have hu : Tryd.prog.underlying 29 = some (.slice 5) := by kernel_rfl
  have hs : (Tryd.prog.info? 5).map (·.size) = some 1 := by kernel_rfl
  by_cases h0 : l = []
  · subst h0
    have := run_copy_none (P := Tryd.prog) w 29 29 3 5 (some ⟨b, off, none⟩) A m cc 0 c hu hs (by simp)
    refine runs_of this (hk w ?_ (.refl _ _))
    simpa using hb
  · obtain ⟨a, ha, _⟩ := hr 0 (List.length_pos_iff.2 h0)
    subst ha
    have hmm : Nat.min l.length m = l.length := by show min l.length m = l.length; omega
    have := run_copy_row (P := Tryd.prog) w 29 29 3 5 b off m cc a l.length c (cur.map byteV).toArray TU8 (l.map byteV) hu hs hb (by rw [List.length_map, hmm]) (fun j v hj => by
      rw [List.getElem?_map] at hj
      obtain ⟨x, hx, rfl⟩ := Option.map_eq_some_iff.1 hj
      obtain ⟨hjl, rfl⟩ := List.getElem?_eq_some_iff.1 hx
      obtain ⟨a', ha', hc⟩ := hr j hjl
      injection ha' with ha'; subst ha'
      exact hc) (by rw [List.length_map]; simp; omega) (fun v hv => by obtain ⟨x, _, rfl⟩ := List.mem_map.1 hv; rfl)
    have e : ((cur.map byteV).toArray.toList.take off ++ l.map byteV ++ (cur.map byteV).toArray.toList.drop (off + (l.map byteV).length)).toArray = ((cur.take off ++ l ++ cur.drop (off + l.length)).map byteV).toArray := by
      simp [List.map_take, List.map_drop]
    rw [e] at this
    refine runs_of this ?_
    have := hk (w.setRow b ((cur.take off ++ l ++ cur.drop (off + l.length)).map byteV).toArray) (HB.setRow hb _) (setRow_keeps _ _ _)
    simpa [goInt] using this
/-- a run's bytes -/
def le8 (r : Nat) : List UInt8 := [UInt8.ofNat r, UInt8.ofNat (r / 256), UInt8.ofNat (r / 65536), UInt8.ofNat (r / 16777216), UInt8.ofNat (r / 4294967296), UInt8.ofNat (r / 1099511627776), UInt8.ofNat (r / 281474976710656), UInt8.ofNat (r / 72057594037927936)]
def payB (r : Nat) (u : List UInt8) : List UInt8 := le8 r ++ [UInt8.ofNat u.length, UInt8.ofNat (u.length / 256)] ++ u ++ List.replicate (498 - u.length) 0
def buildL (r : Nat) (u : List UInt8) : List UInt8 := sealL (payB r u)
theorem payB_len (r : Nat) {u : List UInt8} (h : u.length ≤ 498) : (payB r u).length = 508 := by simp [payB, le8]; omega
theorem u8div (r m : Nat) : IntKind.u8.wrap ((r : Int).fdiv (m : Int)) = ((UInt8.ofNat (r / m)).toNat : Int) := by
  rw [u8w, UInt8.toNat_ofNat', Int.fdiv_eq_ediv_of_nonneg _ (Int.natCast_nonneg _)]
  omega
def setK (r : Nat) : Nat → Nat → List UInt8 → List UInt8
  | 0, _, l => l
  | m + 1, i, l => setK r m (i + 1) (l.set i (UInt8.ofNat (r / 2 ^ (8 * i))))
theorem setK8 (r : Nat) (l : List UInt8) (h : l.length = 508) : setK r 8 0 l = le8 r ++ l.drop 8 := by
  match l, h with
  | a :: b :: c :: d :: e :: f :: g :: h :: t, _ => simp [setK, le8]
theorem build_l0 {w0 : World} {b c r : Nat} {K : World → Prop} : ∀ (m i : Nat) (w : World) (l : List UInt8), m + i = 8 → l.length = 508 → BB w b l → Keeps (fun k => k = b) w0 w →
    (∀ w', BB w' b (setK r m i l) → Keeps (fun k => k = b) w0 w' → K w') → f_wal_build.l0 (m + 1) (r : Int) (some ⟨b, 0, none⟩) 508 c (i : Int) w K := by
  intro m
  induction m with
  | zero =>
    intro i w l hi hl hb hk hK
    unfold f_wal_build.l0
    exact sel_f (by simp; omega) (hK w hb hk)
  | succ m ih =>
    intro i w l hi hl hb hk hK
    unfold f_wal_build.l0
    have e1 : IntKind.u64.wrap (IntKind.i64.wrap ((8 : Int) * (i : Int))) = ((8 * i : Nat) : Int) := by rw [w64_in (by omega), u64w]; omega
    rw [e1]
    refine sel_t (by simp; omega) (req_intro (by simp; omega) (optB_some rfl (req_intro (by simp; omega) ?_)))
    rw [Int.toNat_natCast, Int.toNat_natCast, Nat.mul_one]
    refine bb_st hb (by omega) (v := UInt8.ofNat (r / 2 ^ (8 * i))) ?_ fun w' h' k' => ?_
    · rw [show min (8 * i) 64 = 8 * i by omega]
      have := u8div r (2 ^ (8 * i))
      rw [← this]
      congr 2
    · rw [show IntKind.i64.wrap ((i : Int) + 1) = ((i + 1 : Nat) : Int) by rw [w64_in (by omega)]; omega]
      exact ih (i + 1) w' _ (by omega) (by simpa using hl) h' (hk.trans k') hK
theorem build_ok {w : World} {r : Nat} {A : Option Addr} {n c : Nat} {u : List UInt8} (hr : Go.Dn.RB w A u) (hn : n = u.length) (hu : u.length ≤ 498) :
    Calls Tryd.prog 34 #[.int .i64 (r : Int), .slice A n c] w fun e w' => ∃ A' c', e = .returned (.slice A' 512 c') ∧ OwnB w' w.heap.size 5 A' c' (buildL r u) ∧ Below w.heap.size w w' := by
  subst hn
  apply f_wal_build.ok
  unfold f_wal_build.wp
  refine mk_bytes (n := 508) (by decide) fun w1 h1 g1 _ => ⟨_, _, _, rfl, 9, ?_⟩
  have out : ∀ {w' w''}, Below w.heap.size w w' → Keeps (fun k => k = w.heap.size) w' w'' → Below w.heap.size w w'' := fun g k => g.trans (k.below g.size fun k hk e => by omega)
  refine build_l0 8 0 w1 _ rfl (by simp) h1 (.refl _ _) fun w2 h2 k2 _ => ?_
  rw [setK8 _ _ (by simp)] at h2
  have g2 := out g1 k2
  refine optB_some rfl (req_intro (by simp) ?_)
  rw [show ((8 : Int).toNat * 1) = 8 from rfl]
  have hl2 : (le8 r ++ (List.replicate 508 (0 : UInt8)).drop 8).length = 508 := by simp [le8]
  refine bb_st h2 (by rw [hl2]; decide) (v := UInt8.ofNat u.length) (by rw [u8w, UInt8.toNat_ofNat']; omega) fun w3 h3 k3 => optB_some rfl (req_intro (by simp) ?_)
  rw [show ((9 : Int).toNat * 1) = 9 from rfl]
  have g3 := out g2 k3
  refine bb_st h3 (by rw [List.length_set, hl2]; decide) (v := UInt8.ofNat (u.length / 256)) (by have := u8div u.length 256; simpa using this) fun w4 h4 k4 => req_intro (by simp) ?_
  have g4 := out g3 k4
  have e4 : ((le8 r ++ (List.replicate 508 (0 : UInt8)).drop 8).set 8 (UInt8.ofNat u.length)).set 9 (UInt8.ofNat (u.length / 256)) = le8 r ++ [UInt8.ofNat u.length, UInt8.ofNat (u.length / 256)] ++ List.replicate 498 0 := by
    rw [List.drop_replicate, show 508 - 8 = 498 + 1 + 1 from rfl, List.replicate_succ, List.replicate_succ]
    simp [le8]
  rw [e4] at h4
  have hsl : slA (some ⟨w.heap.size, 0, none⟩) 10 508 1 = some ⟨w.heap.size, 10, none⟩ := by
    unfold slA; rw [if_neg (by decide), Option.map_some, add_mk]
  rw [hsl]
  have hl4 : (le8 r ++ [UInt8.ofNat u.length, UInt8.ofNat (u.length / 256)] ++ List.replicate 498 0).length = 508 := by simp [le8]
  refine copy_bb h4 rfl (hr.below g4 (Nat.le_refl _)) (by rw [hl4]) (by rw [hl4]; omega) fun w5 h5 k5 => ⟨_, rfl, ?_⟩
  have g5 := out g4 k5
  have e5 : (le8 r ++ [UInt8.ofNat u.length, UInt8.ofNat (u.length / 256)] ++ List.replicate 498 0).take 10 ++ u ++ (le8 r ++ [UInt8.ofNat u.length, UInt8.ofNat (u.length / 256)] ++ List.replicate 498 0).drop (10 + u.length) = payB r u := by
    have h10 : (le8 r ++ [UInt8.ofNat u.length, UInt8.ofNat (u.length / 256)]).length = 10 := by simp [le8]
    rw [List.take_left' h10, List.drop_append, h10, List.drop_of_length_le (by rw [h10]; omega), List.nil_append, List.drop_replicate, show 498 - (10 + u.length - 10) = 498 - u.length by omega]
    rfl
  rw [e5] at h5
  refine (Seal_ok h5.rb (payB_len r hu).symm (fun h => by cases h) (by rw [payB_len r hu]; decide)).mono ?_
  rintro _ w6 ⟨A', c', rfl, o6, g6⟩
  have el : (sealL (payB r u)).length = 512 := by show (le4 _ ++ _).length = _; rw [List.length_append, payB_len r hu]; rfl
  rw [el]
  exact ⟨_, _, _, rfl, A', c', rfl, o6.mono g5.size, g5.trans (g6.mono g5.size)⟩
end Go.Proofs.YtpokaafedpnbdaaDoor.Rd

/-! wal's records and its log in memory; clone. Conditions: none. -/
namespace Go.Proofs.YtpokaafedpnbdaaDoor.Rd
open Go.Dn Go.RowKit Go.Shelf
set_option linter.unusedVariables false
set_option linter.unusedSimpArgs false
set_option maxRecDepth 100000
/-- a record -/
structure Rc where
  lsn : Int
  kind : Int
  body : List UInt8
deriving DecidableEq
/-- a record as it lies -/
structure MR where
  lsn : Int
  kind : Int
  A : Option Addr
  n : Nat
  c : Nat
def eR (m : MR) : List Value := [.int .i64 m.lsn, .int .i64 m.kind, .slice m.A m.n m.c]
theorem ER : Enc eR 3 := ⟨fun _ => rfl, fun f u hu => by simp only [eR, List.mem_cons, List.not_mem_nil, or_false] at hu; rcases hu with rfl | rfl | rfl <;> rfl, by decide⟩
abbrev TRec : TypeId := 39
abbrev TLog : TypeId := 75
theorem RTr : RecTy Tryd.prog 28 TRec 3 40 := ⟨by kernel_rfl, by kernel_rfl⟩
def eU (b : UInt8) : List Value := [byteV b]
theorem EU : Enc eU 1 := ⟨fun _ => rfl, fun f u hu => by simp only [eU, List.mem_cons, List.not_mem_nil, or_false] at hu; subst hu; rfl, by decide⟩
theorem encs_eU (l : List UInt8) : encs eU l = l.map byteV := by
  induction l with
  | nil => rfl
  | cons b l ih => unfold encs at ih ⊢; rw [List.flatMap_cons, ih]; rfl
section
variable {w w' : World} {N N' S : Nat → Prop} {m : MR} {r : Rc} {B : Nat}
theorem ownB_E {A : Option Addr} {c : Nat} {l : List UInt8} : OwnB w B TU8 A c l ↔ OwnE eU 1 w B TU8 A c l := by
  unfold OwnB OwnE; rw [encs_eU]
theorem own_hbB {A : Option Addr} {c : Nat} {l : List UInt8} (h : OwnB w B TU8 A c l) {a : Addr} (ha : A = some a) : ∃ cs, HB w a.block cs TU8 := own_hb (ownB_E.1 h) ha
/-- a record of memory is this one; its body's block is none of N -/
structure RcM (w : World) (N : Nat → Prop) (m : MR) (r : Rc) : Prop where
  l : m.lsn = r.lsn
  k : m.kind = r.kind
  n : m.n = r.body.length
  c : m.n ≤ m.c
  b : r.body.length ≤ 1200
  rb : Go.Dn.RB w m.A r.body
  a : ∀ a, m.A = some a → a.block < w.heap.size ∧ ¬ N a.block
  ty : ∀ a, m.A = some a → ∃ cs, HB w a.block cs TU8
theorem RBk {A : Option Addr} {l : List UInt8} (h : Go.Dn.RB w A l) (k : Keeps S w w') (hA : ∀ a, A = some a → ¬ S a.block) : Go.Dn.RB w' A l := fun i hi => by
  obtain ⟨a, ha, hc⟩ := h i hi
  exact ⟨a, ha, k.cell hc (by rw [add_block]; exact hA a ha)⟩
theorem RcM.keeps (h : RcM w N m r) (k : Keeps S w w') (hS : ∀ k, S k → N k) : RcM w' N m r :=
  ⟨h.l, h.k, h.n, h.c, h.b, RBk h.rb k fun a ha hs => (h.a a ha).2 (hS _ hs), fun a ha => ⟨Nat.lt_of_lt_of_le (h.a a ha).1 k.size, (h.a a ha).2⟩, fun a ha => by
    obtain ⟨cs, hc⟩ := h.ty a ha
    exact ⟨cs, hc.keeps k fun hs => (h.a a ha).2 (hS _ hs)⟩⟩
theorem RcM.below (h : RcM w N m r) (k : Below w.heap.size w w') : RcM w' N m r := h.keeps (S := fun _ => False) (.of_below k) fun _ => False.elim
theorem RcM.out (h : RcM w N m r) (hN : ∀ k, k < w.heap.size → N' k → N k) : RcM w N' m r := ⟨h.l, h.k, h.n, h.c, h.b, h.rb, fun a ha => ⟨(h.a a ha).1, fun hn => (h.a a ha).2 (hN _ (h.a a ha).1 hn)⟩, h.ty⟩
/-- a row of records -/
def RsM (w : World) (N : Nat → Prop) (ms : List MR) (rs : List Rc) : Prop := ms.length = rs.length ∧ ∀ i (h : i < ms.length) (h' : i < rs.length), RcM w N ms[i] rs[i]
theorem RsM.keeps {ms : List MR} {rs : List Rc} (h : RsM w N ms rs) (k : Keeps S w w') (hS : ∀ k, S k → N k) : RsM w' N ms rs := ⟨h.1, fun i h1 h2 => (h.2 i h1 h2).keeps k hS⟩
theorem RsM.below {ms : List MR} {rs : List Rc} (h : RsM w N ms rs) (k : Below w.heap.size w w') : RsM w' N ms rs := ⟨h.1, fun i h1 h2 => (h.2 i h1 h2).below k⟩
theorem RsM.out {ms : List MR} {rs : List Rc} (h : RsM w N ms rs) (hN : ∀ k, k < w.heap.size → N' k → N k) : RsM w N' ms rs := ⟨h.1, fun i h1 h2 => (h.2 i h1 h2).out hN⟩
theorem RsM.nil : RsM w N [] [] := ⟨rfl, fun i h => absurd h (Nat.not_lt_zero _)⟩
theorem RsM.snoc {ms : List MR} {rs : List Rc} (h : RsM w N ms rs) (hr : RcM w N m r) : RsM w N (ms ++ [m]) (rs ++ [r]) := ⟨by simp [h.1], fun i h1 h2 => by
  by_cases hi : i < ms.length
  · rw [List.getElem_append_left hi, List.getElem_append_left (by rw [← h.1]; exact hi)]; exact h.2 i hi _
  · have : i = ms.length := by simp at h1; omega
    subst this
    have e1 : (ms ++ [m])[ms.length]'h1 = m := by simp
    have e2 : (rs ++ [r])[ms.length]'h2 = r := by
      rw [List.getElem_append_right (by rw [h.1]; exact Nat.le_refl _)]
      simp [h.1]
    rw [e1, e2]; exact hr⟩
theorem RsM.drop {ms : List MR} {rs : List Rc} (h : RsM w N ms rs) (k : Nat) : RsM w N (ms.drop k) (rs.drop k) := ⟨by rw [List.length_drop, List.length_drop, h.1], fun i h1 h2 => by
  rw [List.getElem_drop, List.getElem_drop]; exact h.2 _ _ _⟩
theorem RsM.set {ms : List MR} {rs : List Rc} (h : RsM w N ms rs) {i : Nat} (hi : i < rs.length) (hr : RcM w N m rs[i]) : RsM w N (ms.set i m) rs := ⟨by rw [List.length_set, h.1], fun j h1 h2 => by
  rw [List.getElem_set]
  split
  · rename_i e; subst e; exact hr
  · exact h.2 _ _ _⟩
/-- records of one's own in blocks from B on -/
def RsO (w : World) (B : Nat) (A : Option Addr) (c : Nat) (rs : List Rc) : Prop := ∃ ms, OwnE eR 3 w B TRec A c ms ∧ RsM w (fun k => k < B ∨ Ob A k) ms rs
theorem RsO.below {A : Option Addr} {c : Nat} {rs : List Rc} (h : RsO w B A c rs) (k : Below w.heap.size w w') : RsO w' B A c rs := by
  obtain ⟨ms, h1, h2⟩ := h
  exact ⟨ms, h1.below k, h2.below k⟩
theorem RsO.mono {B' : Nat} {A : Option Addr} {c : Nat} {rs : List Rc} (h : RsO w B A c rs) (hB : B' ≤ B) : RsO w B' A c rs := by
  obtain ⟨ms, h1, h2⟩ := h
  refine ⟨ms, ⟨h1.1, h1.2.imp id fun ⟨g, cap, cur, q1, q2, q3⟩ => ⟨g, cap, cur, q1, Nat.le_trans hB q2, q3⟩⟩, h2.out fun k hk hn => hn.imp (fun h => by omega) id⟩
theorem OwnE.set3 {A : Option Addr} {c : Nat} {ms : List MR} {TE : TypeId} (h : OwnE eR 3 w B TE A c ms) {i : Nat} (hi : i < ms.length) {m' : MR} {x : Value} (hx : eR m' = (eR ms[i]).set 2 x) {K : World → Prop}
    (hK : ∀ w', OwnE eR 3 w' B TE A c (ms.set i m') → Keeps (Ob A) w w' → K w') : ∃ a, A = some a ∧ stW w ((a.add (i * 3)).add 2) x K := by
  obtain ⟨hl, h⟩ := h
  rcases h with ⟨_, h0⟩ | ⟨g, cap, cur, hv, hg, hh, hn, hm, hs, ht⟩
  · omega
  · injection hv with hA hn' hc
    subst hA hc
    refine ⟨_, rfl, ?_⟩
    rw [add_mk, Nat.zero_add, add_mk]
    have hj : i * 3 + 2 < cur.size := by
      rw [hs]
      have : i < c := Nat.lt_of_lt_of_le hi hn
      omega
    have hb : HB w g cur TE := hh
    have := hb_st (v := x) hb hj (K := K) fun w' h' k' => hK w' ?_ (k'.mono fun k _ hk => ⟨_, rfl, hk.symm⟩)
    · rwa [add_mk, Nat.zero_add] at this
    · refine ⟨by rw [encs_len ER, List.length_set], .inr ⟨g, c, _, by rw [List.length_set], hg, h', by rw [List.length_set]; exact hn, hm, by rw [Array.size_setIfInBounds]; exact hs, ?_⟩⟩
      rw [List.length_set, Array.toList_setIfInBounds, List.take_set, ht]
      apply List.ext_getElem?
      intro j
      by_cases hjl : j < ms.length * 3
      · obtain ⟨q, s, hs3, rfl⟩ : ∃ q s, s < 3 ∧ j = q * 3 + s := ⟨j / 3, j % 3, Nat.mod_lt _ (by decide), by omega⟩
        have hq : q < ms.length := by omega
        rw [encs_get ER (l := ms.set i m') (by rw [List.length_set]; exact hq) hs3, List.getElem?_set, List.getElem_set]
        by_cases e : i * 3 + 2 = q * 3 + s
        · have e1 : i = q := by omega
          have e2 : s = 2 := by omega
          subst e1 e2
          rw [if_pos rfl, if_pos rfl, hx, if_pos (by rw [encs_len ER]; omega)]
          simp [eR]
        · rw [if_neg e, encs_get ER hq hs3]
          by_cases e1 : i = q
          · subst e1
            rw [if_pos rfl, hx, List.getElem?_set_ne (by omega)]
          · rw [if_neg e1]
      · rw [List.getElem?_eq_none (by rw [List.length_set, encs_len ER]; omega), List.getElem?_eq_none (by rw [encs_len ER, List.length_set]; omega)]
end
end Go.Proofs.YtpokaafedpnbdaaDoor.Rd

/-! wal.clone: records as new memory. Conditions: at most 2^40 records. -/
namespace Go.Proofs.YtpokaafedpnbdaaDoor.Rd
open Go.Dn Go.RowKit Go.Shelf
set_option linter.unusedVariables false
set_option linter.unusedSimpArgs false
set_option maxRecDepth 100000
section
variable {w w' : World} {N N' S : Nat → Prop} {B : Nat}
/-- a row of records is copied -/
theorem SClone_ok {A : Option Addr} {n c : Nat} {ms : List MR} (hr : RowE eR 3 w A ms) (hn : n = ms.length) (h0 : A = none → c = 0 ∧ n = 0) (hl : ms.length * 40 ≤ 140737488355328) :
    Calls Tryd.prog 68 #[.slice A n c] w fun e w1 => ∃ P pc, e = .returned (.slice P ms.length pc) ∧ OwnE eR 3 w1 w.heap.size TRec P pc ms ∧ Below w.heap.size w w1 := by
  apply f_api_Record_Clone.ok
  unfold f_api_Record_Clone.wp
  cases A with
  | none =>
    obtain ⟨_, hn0⟩ := h0 rfl
    have : ms = [] := List.length_eq_zero_iff.1 (by omega)
    subst this
    exact sel_t rfl ⟨none, 0, rfl, OwnE.none _ _ _ _ _, Below.refl _ _⟩
  | some a =>
    refine sel_f rfl (alW_intro ?_)
    have o := OwnE.empty (enc := eR) (k := 3) (w := w) (B := w.heap.size) (e := TRec) (Nat.le_refl _)
    have b1 : Below w.heap.size w (w.alloc (.cells #[] TRec)) := (Below.refl _ _).alloc (Nat.le_refl _) _
    refine app_row2 RTr ER (by decide) o rfl (hr.below ER b1) hn (fun h => by cases h) b1.size (by simpa using hl) fun P pc w2 o2 k2 f2 => ⟨_, _, _, rfl, P, pc, rfl, o2, b1.trans (k2.below b1.size fun k hk => ?_)⟩
    rintro ⟨a, ha, e⟩
    injection ha with ha; subst ha
    simp at e; omega
/-- round i: the bodies ahead of i are new -/
theorem clone_l0 {w0 : World} {rs : List Rc} {A : Option Addr} {c : Nat} {K : World → Prop} (hl : rs.length ≤ 1099511627776)
    (hK : ∀ w', RsO w' w0.heap.size A c rs → Below w0.heap.size w0 w' → K w') :
    ∀ (m i : Nat) (w : World) (ms : List MR), m + i = rs.length → Below w0.heap.size w0 w → OwnE eR 3 w w0.heap.size TRec A c ms → RsM w (fun k => Ob A k) ms rs → (∀ j (h : j < ms.length), j < i → ∀ a, ms[j].A = some a → w0.heap.size ≤ a.block) →
      f_wal_clone.l0 (m + 1) A rs.length c A rs.length c (rs.length : Int) (i : Int) w K := by
  intro m
  induction m with
  | zero =>
    intro i w ms hi hb ho hm hf
    unfold f_wal_clone.l0
    refine sel_f (by simp; omega) (hK w ⟨ms, ho, hm.1, fun j h1 h2 => ?_⟩ hb)
    have h := hm.2 j h1 h2
    exact ⟨h.l, h.k, h.n, h.c, h.b, h.rb, fun a ha => ⟨(h.a a ha).1, fun hn => hn.elim (fun q => by have := hf j h1 (by omega) a ha; omega) (h.a a ha).2⟩, h.ty⟩
  | succ m ih =>
    intro i w ms hi hb ho hm hf
    have hlt : i < rs.length := by omega
    have hlm : i < ms.length := by rw [hm.1]; exact hlt
    unfold f_wal_clone.l0
    obtain ⟨a, rfl⟩ : ∃ a, A = some a := by
      obtain ⟨a, ha, _⟩ := (ho.reads ER) i hlm
      exact ⟨a, ha⟩
    have hr := hm.2 i hlm hlt
    have row := ho.reads ER
    have c0 := row.c0 ER hlm
    have c1 := row.cj hlm (j := 1) (by decide)
    have c2 := row.cj hlm (j := 2) (by decide)
    refine sel_t (by simpa using hlt) (optB_some rfl (req_intro (by simp; omega) ?_))
    rw [Int.toNat_natCast]
    refine ldI_intro (x := ms[i].lsn) c0 (ldI_intro (x := ms[i].kind) c1 (ldS_intro (A := ms[i].A) (n := ms[i].n) (c := ms[i].c) c2 (al_new fun w1 b e1 s1 h1 g1 => ?_)))
    refine hb_st0 h1 (by simp) fun w2 h2 k2 => hb_st (j := 1) h2 (by simp) fun w3 h3 k3 => hb_st (j := 2) h3 (by simp) fun w4 h4 k4 => hb_ldS (j := 2) h4 (A := ms[i].A) (n := ms[i].n) (c := ms[i].c) rfl ?_
    have g4 : Below w.heap.size w w4 := g1.trans (((k2.trans k3).trans k4).below g1.size fun k hk e => by omega)
    refine (Clone_ok (hr.rb.below g4 (Nat.le_refl _)) hr.n (by have := hr.b; omega)).mono ?_
    rintro _ w5 ⟨A5, c5, rfl, o5, z5, g5⟩
    have g5' : Below w.heap.size w w5 := g4.trans (g5.mono g4.size)
    have ho5 := ho.below g5'
    suffices q : ∀ w6, OwnE eR 3 w6 w0.heap.size TRec (some a) c (ms.set i { ms[i] with A := A5, n := rs[i].body.length, c := c5 }) → Keeps (Ob (some a)) w5 w6 → f_wal_clone.l0 (m + 1) (some a) rs.length c (some a) rs.length c (rs.length : Int) (IntKind.i64.wrap ((i : Int) + 1)) w6 K by
      obtain ⟨a', ha', hst⟩ := OwnE.set3 ho5 hlm (m' := { ms[i] with A := A5, n := rs[i].body.length, c := c5 }) (x := .slice A5 rs[i].body.length c5) rfl q
      injection ha' with ha'; subst ha'
      exact ⟨_, _, _, rfl, optB_some rfl (req_intro (by simp; omega) hst)⟩
    · intro w6 o6 k6
      rw [show IntKind.i64.wrap ((i : Int) + 1) = ((i + 1 : Nat) : Int) by rw [w64_in (by omega)]; omega]
      have hob := ho.block a rfl
      have g6 : Below w0.heap.size w0 w6 := hb.trans ((g5'.mono hb.size).trans (k6.below (Nat.le_trans hb.size g5'.size) fun k hk ⟨a2, ha2, e2⟩ => by injection ha2 with ha2; subst ha2; omega))
      have hA5 : ∀ a2, A5 = some a2 → w4.heap.size ≤ a2.block ∧ a2.block < w5.heap.size := o5.block
      have hsz := hb.size
      have hsz2 := g4.size
      refine ih (i + 1) w6 _ (by omega) g6 o6 ?_ ?_
      · refine RsM.set ((hm.below g5').keeps k6 fun k hk => hk) hlt ⟨hr.l, hr.k, rfl, o5.le, hr.b, RBk o5.reads k6 fun a2 ha2 ⟨a3, ha3, e3⟩ => ?_, fun a2 ha2 => ⟨Nat.lt_of_lt_of_le (hA5 a2 ha2).2 k6.size, fun ⟨a3, ha3, e3⟩ => ?_⟩, fun a2 ha2 => (by
        obtain ⟨cs, hc⟩ := own_hbB o5 ha2
        exact ⟨cs, hc.keeps k6 fun ⟨a3, ha3, e3⟩ => by injection ha3 with ha3; subst ha3; have := hA5 a2 ha2; omega⟩)⟩
        · injection ha3 with ha3; subst ha3; have := hA5 a2 ha2; omega
        · injection ha3 with ha3; subst ha3; have := hA5 a2 ha2; omega
      · intro j h hji a2 ha2
        rw [List.getElem_set] at ha2
        split at ha2
        · have := hA5 a2 ha2; omega
        · exact hf j (by rw [List.length_set] at h; exact h) (by omega) a2 ha2
theorem clone_ok {A : Option Addr} {n c : Nat} {ms : List MR} {rs : List Rc} (hr : RowE eR 3 w A ms) (hm : RsM w N ms rs) (hn : n = ms.length) (h0 : A = none → c = 0 ∧ n = 0) (hl : rs.length ≤ 1099511627776) :
    Calls Tryd.prog 42 #[.slice A n c] w fun e w' => ∃ A' c', e = .returned (.slice A' rs.length c') ∧ RsO w' w.heap.size A' c' rs ∧ Below w.heap.size w w' := by
  apply f_wal_clone.ok
  unfold f_wal_clone.wp
  refine (SClone_ok hr hn h0 (by rw [hm.1]; omega)).mono ?_
  rintro _ w1 ⟨P, pc, rfl, o1, g1⟩
  refine ⟨_, _, _, rfl, rs.length + 1, ?_⟩
  rw [hm.1]
  refine clone_l0 hl (fun w' h g _ => ⟨P, pc, rfl, h, g⟩) rs.length 0 w1 ms rfl g1 o1 ?_ fun j h hj => absurd hj (Nat.not_lt_zero _)
  have h1 : RsM w (fun k => Ob P k) ms rs := hm.out fun k hk ⟨a, ha, e⟩ => by have := (o1.block a ha).1; omega
  exact h1.below g1
end
end Go.Proofs.YtpokaafedpnbdaaDoor.Rd

/-! wal: the log in memory; bytes appended. Conditions: none. -/
namespace Go.Proofs.YtpokaafedpnbdaaDoor.Rd
open Go.Dn Go.RowKit Go.Shelf
set_option linter.unusedVariables false
set_option linter.unusedSimpArgs false
set_option maxRecDepth 100000
theorem RTu : RecTy Tryd.prog 29 TU8 1 1 := ⟨by kernel_rfl, by kernel_rfl⟩
section
variable {w w' : World} {N N' S : Nat → Prop} {B : Nat}
theorem rb_row {A : Option Addr} {l : List UInt8} (h : Go.Dn.RB w A l) : RowE eU 1 w A l := fun i hi => by
  obtain ⟨a, ha, hc⟩ := h i hi
  refine ⟨a, ha, fun j hj => ?_⟩
  have : j = 0 := by omega
  subst this
  rw [Nat.mul_one, Go.Dn.add_zero, hc]; rfl
theorem app_b {A : Option Addr} {n c : Nat} {l : List UInt8} {A2 : Option Addr} {m c2 : Nat} {l2 : List UInt8} (ho : OwnB w B TU8 A c l) (hn : n = l.length) (hr : Go.Dn.RB w A2 l2) (hm : m = l2.length) (h0 : A2 = none → c2 = 0) (hB : B ≤ w.heap.size) (hlen : l.length + l2.length ≤ 140737488355328)
    {ty : TypeId} {K : Value → World → Prop} (hK : ∀ A' c' w', OwnB w' B TU8 A' c' (l ++ l2) → Keeps (Ob A) w w' → (∀ a, A' = some a → A = some a ∨ w.heap.size ≤ a.block) → K (.slice A' (l ++ l2).length c') w') :
    Runs Tryd.prog (Builtin.append_ #[29, 29] ty #[.slice A n c, .slice A2 m c2]) w K := by
  refine app_row2 RTu EU (by decide) (ownB_E.1 ho) hn (rb_row hr) hm (fun h => ⟨h0 h, ?_⟩) hB (by simpa using hlen) fun A' c' w' o k f => hK A' c' w' (ownB_E.2 o) k f
  subst h
  cases l2 with
  | nil => exact hm
  | cons b l2 => obtain ⟨a, ha, _⟩ := hr 0 (Nat.succ_pos _); cases ha
theorem OwnB.keepsB {A : Option Addr} {c : Nat} {l : List UInt8} (h : OwnB w B TU8 A c l) (k : Keeps S w w') (hA : ∀ a, A = some a → ¬ S a.block) : OwnB w' B TU8 A c l := ownB_E.2 ((ownB_E.1 h).keeps k hA)
/-! ### the log -/
structure Lg where
  first : Nat
  count : Nat
  run : Nat
  most : Nat
  stream : List UInt8
  safe : Nat
  recs : List Rc
  old : Bool
  dead : Bool
structure RL where
  L : Nat
  S : Option Addr
  sc : Nat
  R : Option Addr
  rc : Nat
def lgC (r : RD) (ρ : RL) (l : Lg) : Array Value := #[.pointer (some ⟨r.D, 0, none⟩), .int .i64 l.first, .int .i64 l.count, .int .i64 l.run, .int .i64 l.most, .slice ρ.S l.stream.length ρ.sc, .int .i64 l.safe, .slice ρ.R l.recs.length ρ.rc, .bool l.old, .bool l.dead]
/-- the log's own blocks -/
def LN (ρ : RL) (k : Nat) : Prop := k = ρ.L ∨ Ob ρ.S k ∨ Ob ρ.R k
structure LM (w : World) (B : Nat) (r : RD) (ρ : RL) (l : Lg) : Prop where
  hb : HB w ρ.L (lgC r ρ l) TLog
  lo : B ≤ ρ.L
  st : OwnB w B TU8 ρ.S ρ.sc l.stream
  rc : ∃ ms, OwnE eR 3 w B TRec ρ.R ρ.rc ms ∧ RsM w (fun k => LN ρ k ∨ FD r k) ms l.recs
variable {r : RD} {d : Dk} {ρ : RL} {l : Lg} {B1 : Nat}
theorem DM.ty (h : DM w B r d) {k : Nat} (hk : FD r k) {cs : Array Value} {t : TypeId} (hb : HB w k cs t) : t = TDk ∨ t = TS ∨ t = TFt := by
  rcases hk with rfl | rfl | ⟨a, ha, rfl⟩ | ⟨a, ha, rfl⟩
  · exact .inl (HB.ty hb h.hb)
  · exact absurd hb h.gm.not_cells
  · obtain ⟨cs, hc⟩ := own_hb h.sf ha
    exact .inr (.inl (HB.ty hb hc))
  · obtain ⟨cs, hc⟩ := own_hb h.pl ha
    exact .inr (.inr (HB.ty hb hc))
theorem LM.nFD (h : LM w B r ρ l) (hd : DM w B1 r d) : ∀ k, LN ρ k → ¬ FD r k := by
  rintro k hk hf
  rcases hk with rfl | ⟨a, ha, rfl⟩ | ⟨a, ha, rfl⟩
  · exact absurd (hd.ty hf h.hb) (by decide)
  · obtain ⟨cs, hc⟩ := own_hbB h.st ha
    exact absurd (hd.ty hf hc) (by decide)
  · obtain ⟨ms, hc, _⟩ := h.rc
    obtain ⟨cs, hc⟩ := own_hb hc ha
    exact absurd (hd.ty hf hc) (by decide)
theorem LM.nn (h : LM w B r ρ l) : ¬ Ob ρ.S ρ.L ∧ ¬ Ob ρ.R ρ.L ∧ ∀ k, Ob ρ.S k → ¬ Ob ρ.R k := by
  refine ⟨?_, ?_, ?_⟩
  · rintro ⟨a, ha, e⟩
    obtain ⟨cs, hc⟩ := own_hbB h.st ha
    rw [e] at hc
    exact absurd (HB.ty hc h.hb) (by decide)
  · rintro ⟨a, ha, e⟩
    obtain ⟨ms, hc, _⟩ := h.rc
    obtain ⟨cs, hc⟩ := own_hb hc ha
    rw [e] at hc
    exact absurd (HB.ty hc h.hb) (by decide)
  · rintro _ ⟨a, ha, rfl⟩ ⟨a', ha', e⟩
    obtain ⟨ms, hc, _⟩ := h.rc
    obtain ⟨cs, hc⟩ := own_hb hc ha'
    obtain ⟨cs', hc'⟩ := own_hbB h.st ha
    rw [e] at hc
    exact absurd (HB.ty hc hc') (by decide)
theorem LM.lt (h : LM w B r ρ l) : ∀ k, LN ρ k → k < w.heap.size ∧ B ≤ k := by
  rintro k (rfl | ⟨a, ha, rfl⟩ | ⟨a, ha, rfl⟩)
  · exact ⟨h.hb.lt, h.lo⟩
  · exact ⟨(h.st.block a ha).2, (h.st.block a ha).1⟩
  · obtain ⟨ms, hc, _⟩ := h.rc
    exact ⟨(hc.block a ha).2, (hc.block a ha).1⟩
/-- a change of others' blocks, and of the disk's -/
theorem LM.keeps (h : LM w B r ρ l) (k : Keeps S w w') (hS : ∀ k, LN ρ k → ¬ S k) (hF : ∀ k, S k → FD r k) : LM w' B r ρ l := by
  obtain ⟨ms, h1, h2⟩ := h.rc
  exact ⟨h.hb.keeps k (hS _ (.inl rfl)), h.lo, OwnB.keepsB h.st k fun a ha => hS _ (.inr (.inl ⟨a, ha, rfl⟩)), ms, h1.keeps k fun a ha => hS _ (.inr (.inr ⟨a, ha, rfl⟩)), h2.keeps k fun k hk => .inr (hF k hk)⟩
theorem LM.below (h : LM w B r ρ l) (k : Below w.heap.size w w') : LM w' B r ρ l := h.keeps (S := fun _ => False) (.of_below k) (fun _ _ => id) fun _ => False.elim
theorem LM.disk (h : LM w B r ρ l) (hd : DM w B1 r d) (k : Keeps (FD r) w w') : LM w' B r ρ l := h.keeps k (h.nFD hd) fun _ => id
/-- the disk's rows of fates lie elsewhere now -/
theorem LM.reP {r' : RD} (h : LM w B r ρ l) (eD : r'.D = r.D) (eF : ∀ k, k < w.heap.size → FD r' k → FD r k) : LM w B r' ρ l := by
  obtain ⟨ms, h1, h2⟩ := h.rc
  refine ⟨?_, h.lo, h.st, ms, h1, h2.out fun k hk hn => hn.imp id (eF k hk)⟩
  have := h.hb
  unfold lgC at this ⊢
  rw [eD]; exact this
/-- the log's own cells anew: nothing else -/
theorem LM.cells {l' : Lg} (h : LM w B r ρ l) (k : Keeps (fun k => k = ρ.L) w w') (hb : HB w' ρ.L (lgC r ρ l') TLog) (e1 : l'.stream = l.stream) (e2 : l'.recs = l.recs) : LM w' B r ρ l' := by
  obtain ⟨n1, n2, n3⟩ := h.nn
  obtain ⟨ms, h1, h2⟩ := h.rc
  exact ⟨hb, h.lo, by rw [e1]; exact OwnB.keepsB h.st k fun a ha e => n1 ⟨a, ha, e⟩, ms, h1.keeps k fun a ha e => n2 ⟨a, ha, e⟩, by rw [e2]; exact h2.keeps k fun k hk => .inl (.inl hk)⟩
theorem LM.dm (h : LM w B r ρ l) (hd : DM w B1 r d) (k : Keeps (LN ρ) w w') : DM w' B1 r d := hd.keeps k fun b hb hl => h.nFD hd b hl hb
end
end Go.Proofs.YtpokaafedpnbdaaDoor.Rd

/-! wal: outside, Format, lsn, step, Room, End, Safe, Reset. Conditions: a log of at most 16 sectors. -/
namespace Go.Proofs.YtpokaafedpnbdaaDoor.Rd
open Go.Dn Go.RowKit Go.Shelf
set_option linter.unusedVariables false
set_option linter.unusedSimpArgs false
set_option maxRecDepth 100000
def toI (l : List UInt8) : List Int := l.map fun b => (b.toNat : Int)
theorem toI_len (l : List UInt8) : (toI l).length = l.length := by simp [toI]
theorem rbI {w : World} {A : Option Addr} {l : List UInt8} (h : Go.Dn.RB w A l) : RB w A (toI l) := fun i hi => by
  obtain ⟨a, ha, hc⟩ := h i (by rwa [toI_len] at hi)
  refine ⟨a, ha, ?_⟩
  rw [hc]
  simp [toI, byteV]
/-- a sector written into the log's place -/
def wrL (d : Dk) (i : Int) (b : List UInt8) : Dk := wrD d i (toI b)
def wcL (d : Dk) (i : Int) (b : List UInt8) : Int := wrC d i (toI b)
def formatL (d : Dk) (first : Nat) : Dk × Int :=
  if wcL d first (buildL 1 []) ≠ 0 then (wrL d first (buildL 1 []), wcL d first (buildL 1 [])) else (syD (wrL d first (buildL 1 [])), syC (wrL d first (buildL 1 [])))
def deadL (l : Lg) (c : Int) : Lg := if c = 0 then l else { l with dead := true }
def freshL (l : Lg) : Lg := { l with run := l.most + 1, most := l.most + 1, stream := [], safe := 0, recs := [], old := false }
def resetL (d : Dk) (l : Lg) : Dk × Lg × Int :=
  if l.dead = true then (d, l, 91) else if 274877906944 ≤ l.most then (d, l, 90) else
  if wcL d l.first (buildL (l.most + 1) []) ≠ 0 then (wrL d l.first (buildL (l.most + 1) []), { l with dead := true }, wcL d l.first (buildL (l.most + 1) [])) else
  if syC (wrL d l.first (buildL (l.most + 1) [])) ≠ 0 then (syD (wrL d l.first (buildL (l.most + 1) [])), { l with dead := true }, syC (wrL d l.first (buildL (l.most + 1) []))) else
  (syD (wrL d l.first (buildL (l.most + 1) [])), freshL l, 0)
/-- a log's numbers are small -/
structure LgS (l : Lg) : Prop where
  c0 : 1 ≤ l.count
  c : l.count ≤ 16
  f : l.first ≤ 4096
  s : l.stream.length ≤ 7968
  sa : l.safe ≤ l.stream.length
  run : l.run ≤ 274877906944
  most : l.most ≤ 274877906944
  rs : l.recs.length ≤ l.stream.length
section
variable {w w' : World} {B B1 : Nat} {r : RD} {d : Dk} {ρ : RL} {l : Lg}
theorem outside_ok (h : DM w B r d) {first count : Int} (h0 : -9223372036854775808 ≤ first ∧ first ≤ 9223372036854775807) :
    Calls Tryd.prog 39 #[.pointer (some ⟨r.D, 0, none⟩), .int .i64 first, .int .i64 count] w fun e w' => e = .returned (.bool (decide (first < 0 ∨ count < 1 ∨ (d.safe.length : Int) < count ∨ (d.safe.length : Int) - count < first))) ∧ w' = w := by
  have hsl := h.sl
  apply f_wal_outside.ok
  unfold f_wal_outside.wp
  by_cases h1 : first < 0
  · exact sel_t (by simpa using h1) ⟨by simp [h1], rfl⟩
  refine sel_f (by simp; omega) ?_
  by_cases h2 : count < 1
  · exact sel_t (by simpa using h2) ⟨by simp [h2], rfl⟩
  refine sel_f (by simp; omega) ((Size_ok h).mono ?_)
  rintro _ _ ⟨rfl, rfl⟩
  refine ⟨_, rfl, ?_⟩
  by_cases h3 : (d.safe.length : Int) < count
  · exact sel_t (by simpa using h3) ⟨by simp [h3], rfl⟩
  refine sel_f (by simp; omega) ((Size_ok h).mono ?_)
  rintro _ _ ⟨rfl, rfl⟩
  refine ⟨_, rfl, ?_, rfl⟩
  rw [w64_in (by omega)]
  refine congrArg (fun b => Ending.returned (.bool b)) (decide_eq_decide.2 ?_)
  omega
theorem bWrite_ok (h : DM w B r d) {i : Int} {A : Option Addr} {c : Nat} {b : List UInt8} {B2 : Nat} (hb : OwnB w B2 TU8 A c b) (hn : ∀ k, FD r k → k < B2) :
    Calls Tryd.prog 24 #[.pointer (some ⟨r.D, 0, none⟩), .int .i64 i, .slice A b.length c] w fun e w' => e = .returned (.int .i64 (wcL d i b)) ∧ DM w' B r (wrL d i b) ∧ Keeps (FD r) w w' :=
  Write_ok h (toI_len b).symm (rbI hb.reads) fun a ha hf => by have := (hb.block a ha).1; have := hn _ hf; omega
theorem buildL_len (r : Nat) {u : List UInt8} (h : u.length ≤ 498) : (buildL r u).length = 512 := by
  show (le4 _ ++ _).length = _; rw [List.length_append, payB_len r h]; rfl
theorem Format_ok (h : DM w B r d) {first count : Nat} (h1 : 1 ≤ count) (h2 : first + count ≤ d.safe.length) :
    Calls Tryd.prog 31 #[.pointer (some ⟨r.D, 0, none⟩), .int .i64 first, .int .i64 count] w fun e w' => e = .returned (.int .i64 (formatL d first).2) ∧ DM w' B r (formatL d first).1 ∧ Keeps (FD r) w w' := by
  have hsl := h.sl
  apply f_wal_Format.ok
  unfold f_wal_Format.wp
  refine (outside_ok h (by omega)).mono ?_
  rintro _ w ⟨rfl, rfl⟩
  refine ⟨_, rfl, sel_f (by simp; omega) ((build_ok (r := 1) (u := []) (RB.nil _ _) rfl (by decide)).mono ?_)⟩
  rintro _ w1 ⟨A1, c1, rfl, o1, g1⟩
  refine ⟨_, _, _, rfl, ?_⟩
  have e512 : (buildL 1 []).length = 512 := buildL_len 1 (by decide)
  rw [← e512]
  refine (bWrite_ok (h.below g1) o1 fun k hk => (h.lt k hk).1).mono ?_
  rintro _ w2 ⟨rfl, h2', k2⟩
  refine ⟨_, rfl, ?_⟩
  have k02 : Keeps (FD r) w w2 := (Keeps.of_below g1).trans k2
  unfold formatL
  by_cases c : wcL d first (buildL 1 []) = 0
  · rw [if_neg (by simpa using c)]
    refine sel_f (by simpa using c) ((Sync_ok h2').mono ?_)
    rintro _ w3 ⟨rfl, h3, k3⟩
    exact ⟨_, rfl, rfl, h3, k02.trans k3⟩
  · rw [if_pos c]
    exact sel_t (by simpa using c) ⟨rfl, h2', k02⟩
theorem lsn_ok (h : LM w B r ρ l) (hs : LgS l) {a : Nat} (ha : a ≤ 100000) : Calls Tryd.prog 47 #[.pointer (some ⟨ρ.L, 0, none⟩), .int .i64 a] w fun e w' => e = .returned (.int .i64 ((l.run * 16777216 + a : Nat) : Int)) ∧ w' = w := by
  have := hs.run
  apply f_wal_Log_lsn.ok
  unfold f_wal_Log_lsn.wp
  refine hb_ldI (j := 3) h.hb rfl ⟨?_, rfl⟩
  rw [w64_in (x := (l.run : Int) * 16777216) (by omega), w64_in (by omega)]
  congr 2
theorem step_wal (h : LM w B r ρ l) (c : Int) : Calls Tryd.prog 35 #[.pointer (some ⟨ρ.L, 0, none⟩), .int .i64 c] w fun e w' => e = .returned (.bool (c == 0)) ∧ LM w' B r ρ (deadL l c) ∧ Keeps (fun k => k = ρ.L) w w' := by
  apply f_wal_Log_step.ok
  unfold f_wal_Log_step.wp
  refine hb_ldB (j := 9) h.hb rfl ?_
  by_cases hd : l.dead = true
  · refine sel_t hd (hb_st (j := 9) h.hb (by simp [lgC]) fun w1 h1 k1 => ⟨rfl, h.cells k1 ?_ (by unfold deadL; split <;> rfl) (by unfold deadL; split <;> rfl), k1⟩)
    have e : (lgC r ρ l).setIfInBounds 9 (.bool true) = lgC r ρ (deadL l c) := by
      unfold deadL; split
      · unfold lgC; rw [hd]; rfl
      · rfl
    rw [← e]; exact h1
  · refine sel_f (by simpa using hd) (hb_st (j := 9) h.hb (by simp [lgC]) fun w1 h1 k1 => ⟨rfl, h.cells k1 ?_ (by unfold deadL; split <;> rfl) (by unfold deadL; split <;> rfl), k1⟩)
    have e : (lgC r ρ l).setIfInBounds 9 (.bool (c != 0)) = lgC r ρ (deadL l c) := by
      have hd' : l.dead = false := by simpa using hd
      unfold deadL; split
      · rename_i h0; subst h0; unfold lgC; rw [hd']; rfl
      · rename_i h0
        have : (c != 0) = true := by simpa using h0
        rw [this]; rfl
    rw [← e]; exact h1
theorem Room_ok (h : LM w B r ρ l) (hs : LgS l) : Calls Tryd.prog 21 #[.pointer (some ⟨ρ.L, 0, none⟩)] w fun e w' => e = .returned (.int .i64 ((l.count : Int) * 498 - l.stream.length)) ∧ Below w.heap.size w w' := by
  have := hs.c
  have := hs.s
  apply f_wal_Log_Room.ok
  unfold f_wal_Log_Room.wp
  have g := (Below.refl w.heap.size w).drew
  refine drW_intro (hb_ldI (j := 2) (h.below g).hb rfl (hb_ldS (j := 5) (h.below g).hb (A := ρ.S) (n := l.stream.length) (c := ρ.sc) rfl ⟨?_, g⟩))
  rw [w64_in (x := (l.count : Int) * 498) (by omega), w64_in (by omega)]
theorem End_ok (h : LM w B r ρ l) (hs : LgS l) : Calls Tryd.prog 23 #[.pointer (some ⟨ρ.L, 0, none⟩)] w fun e w' => e = .returned (.int .i64 ((l.run * 16777216 + l.stream.length : Nat) : Int)) ∧ w' = w := by
  have := hs.s
  apply f_wal_Log_End.ok
  unfold f_wal_Log_End.wp
  refine hb_ldS (j := 5) h.hb (A := ρ.S) (n := l.stream.length) (c := ρ.sc) rfl ((lsn_ok h hs (by omega)).mono ?_)
  rintro _ _ ⟨rfl, rfl⟩
  exact ⟨_, rfl, rfl, rfl⟩
theorem Safe_ok (h : LM w B r ρ l) (hs : LgS l) : Calls Tryd.prog 28 #[.pointer (some ⟨ρ.L, 0, none⟩)] w fun e w' => e = .returned (.int .i64 ((l.run * 16777216 + l.safe : Nat) : Int)) ∧ w' = w := by
  have := hs.s
  have := hs.sa
  apply f_wal_Log_Safe.ok
  unfold f_wal_Log_Safe.wp
  refine hb_ldI (j := 6) h.hb rfl ((lsn_ok h hs (by omega)).mono ?_)
  rintro _ _ ⟨rfl, rfl⟩
  exact ⟨_, rfl, rfl, rfl⟩
theorem deadL_ne {c : Int} (h : c ≠ 0) : deadL l c = { l with dead := true } := by unfold deadL; rw [if_neg h]
theorem deadL_0 : deadL l 0 = l := rfl
/-- which blocks a log's call turns -/
def WN (r : RD) (ρ : RL) (k : Nat) : Prop := FD r k ∨ LN ρ k
theorem Reset_ok (h : DM w B r d) (hl : LM w B1 r ρ l) (hs : LgS l) (hB : B1 ≤ w.heap.size) :
    Calls Tryd.prog 13 #[.pointer (some ⟨ρ.L, 0, none⟩)] w fun e w' => e = .returned (.int .i64 (resetL d l).2.2) ∧ DM w' B r (resetL d l).1 ∧ (∃ ρ', ρ'.L = ρ.L ∧ LM w' B1 r ρ' (resetL d l).2.1 ∧ ∀ k, LN ρ' k → LN ρ k) ∧ Keeps (WN r ρ) w w' := by
  have hm := hs.most
  apply f_wal_Log_Reset.ok
  unfold f_wal_Log_Reset.wp resetL
  refine hb_ldB (j := 9) hl.hb rfl ?_
  by_cases hd : l.dead = true
  · rw [if_pos hd]
    exact sel_t hd ⟨rfl, h, ⟨ρ, rfl, hl, fun _ => id⟩, .refl _ _⟩
  rw [if_neg hd]
  refine sel_f (by simpa using hd) (hb_ldI (j := 4) hl.hb rfl ?_)
  by_cases h2 : 274877906944 ≤ l.most
  · rw [if_pos h2]
    exact sel_t (by simp; omega) ⟨rfl, h, ⟨ρ, rfl, hl, fun _ => id⟩, .refl _ _⟩
  rw [if_neg h2]
  have g0 := (Below.refl w.heap.size w).drew
  refine sel_f (by simp; omega) (drW_intro ⟨fun w' => HB w' ρ.L (lgC r ρ l) TLog, (hl.below g0).hb, ⟨_, fun w' h => (h.cell 0).trans rfl, ⟨_, fun w' h => (h.cell 1).trans rfl, ⟨_, fun w' h => (h.cell 4).trans rfl, ?_⟩⟩⟩⟩)
  dsimp only
  rw [show IntKind.i64.wrap ((l.most : Int) + 1) = ((l.most + 1 : Nat) : Int) by rw [w64_in (by omega)]; omega]
  refine (build_ok (u := []) (RB.nil _ _) rfl (by decide)).mono ?_
  rintro _ w1 ⟨A1, c1, rfl, o1, g1⟩
  have e512 : (buildL (l.most + 1) []).length = 512 := buildL_len _ (by decide)
  have g01 : Below w.heap.size w w1 := g0.trans g1
  have hl1 := hl.below g01
  have h1 := h.below g01
  refine ⟨_, _, _, rfl, hl1.hb, ?_⟩
  rw [← e512]
  refine (bWrite_ok h1 o1 fun k hk => (h.lt k hk).1).mono ?_
  rintro _ w2 ⟨rfl, h2', k2⟩
  have hl2 := hl1.disk h1 k2
  refine ⟨_, rfl, (step_wal hl2 _).mono ?_⟩
  rintro _ w3 ⟨rfl, hl3, k3⟩
  have kL : ∀ {w w'}, Keeps (fun k => k = ρ.L) w w' → Keeps (LN ρ) w w' := fun k => k.mono fun _ _ e => .inl e
  have h3 := hl2.dm h2' (kL k3)
  have K2 : Keeps (WN r ρ) w w2 := (Keeps.of_below g01).trans (k2.mono fun _ _ => .inl)
  have K3 : Keeps (WN r ρ) w w3 := K2.trans ((kL k3).mono fun _ _ => .inr)
  refine ⟨_, rfl, ?_⟩
  by_cases c : wcL d l.first (buildL (l.most + 1) []) = 0
  · rw [if_neg (by simpa using c)]
    rw [c, deadL_0] at hl3
    refine sel_f (by simp [c]) (hb_ldP0 hl3.hb rfl ((Sync_ok h3).mono ?_))
    rintro _ w4 ⟨rfl, h4, k4⟩
    have hl4 := hl3.disk h3 k4
    have K4 : Keeps (WN r ρ) w w4 := K3.trans (k4.mono fun _ _ => .inl)
    refine ⟨_, rfl, (step_wal hl4 _).mono ?_⟩
    rintro _ w5 ⟨rfl, hl5, k5⟩
    have h5 := hl4.dm h4 (kL k5)
    have K5 : Keeps (WN r ρ) w w5 := K4.trans ((kL k5).mono fun _ _ => .inr)
    refine ⟨_, rfl, ?_⟩
    by_cases c2 : syC (wrL d l.first (buildL (l.most + 1) [])) = 0
    · rw [if_neg (by simpa using c2)]
      rw [c2, deadL_0] at hl5
      refine sel_f (by simp [c2]) (hb_ldI (j := 4) hl5.hb rfl (hb_st (j := 4) hl5.hb (by simp [lgC]) fun w6 q6 k6 => ?_))
      rw [show IntKind.i64.wrap ((l.most : Int) + 1) = ((l.most + 1 : Nat) : Int) by rw [w64_in (by omega)]; omega] at q6
      refine hb_ldI (j := 4) q6 rfl (hb_st (j := 3) q6 (by simp [lgC]) fun w7 q7 k7 => hb_st (j := 5) q7 (by simp [lgC]) fun w8 q8 k8 => hb_st (j := 6) q8 (by simp [lgC]) fun w9 q9 k9 => hb_st (j := 7) q9 (by simp [lgC]) fun w10 q10 k10 => hb_st (j := 8) q10 (by simp [lgC]) fun w11 q11 k11 => ?_)
      have kk : Keeps (fun k => k = ρ.L) w5 w11 := ((((k6.trans k7).trans k8).trans k9).trans k10).trans k11
      refine ⟨rfl, hl5.dm h5 (kL kk), ⟨⟨ρ.L, none, 0, none, 0⟩, rfl, ⟨q11, hl.lo, World.ownsRow_nil _ _ _ _, [], OwnE.none _ _ _ _ _, RsM.nil⟩, ?_⟩, K5.trans ((kL kk).mono fun _ _ => .inr)⟩
      rintro k (e | ⟨a, ha, _⟩ | ⟨a, ha, _⟩)
      · exact .inl e
      · cases ha
      · cases ha
    · rw [if_pos c2]
      rw [deadL_ne c2] at hl5
      exact sel_t (by simpa using c2) ⟨rfl, h5, ⟨ρ, rfl, hl5, fun _ => id⟩, K5⟩
  · rw [if_pos c]
    rw [deadL_ne c] at hl3
    exact sel_t (by simpa using c) ⟨rfl, h3, ⟨ρ, rfl, hl3, fun _ => id⟩, K3⟩
end
end Go.Proofs.YtpokaafedpnbdaaDoor.Rd
