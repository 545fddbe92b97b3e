/- page.Bytes: a page written. Conditions: none. -/
import Derived.Test.YtifambgaekjilaaDoorPgD
import Derived.Test.YtifambgaekjilaaDoorCsD
namespace Go.Proofs.YtifambgaekjilaaDoor.Rd
open Go.Dn Go.RowKit
set_option linter.unusedVariables false
set_option linter.unusedSimpArgs false
set_option maxRecDepth 100000
theorem setRow_keeps (w : World) (g : Nat) (cs : Array Value) : Keeps (fun k => k = g) w (w.setRow g cs) :=
  ⟨rfl, rfl, rfl, by simp [World.setRow], fun k hk hn => by
    have hn : ¬ g = k := fun e => hn e.symm
    simp [World.setRow, Array.getElem?_modify, hn]⟩
theorem HB.setRow {w : World} {b : Nat} {cs : Array Value} {t : TypeId} (h : HB w b cs t) (cs' : Array Value) : HB (w.setRow b cs') b cs' t := by
  unfold HB at *
  simp [World.setRow, Array.getElem?_modify, h]
/-- a block of bytes -/
def BB (w : World) (b : Nat) (l : List UInt8) : Prop := HB w b (l.map byteV).toArray TU8
theorem BB.rb {w : World} {b : Nat} {l : List UInt8} (h : BB w b l) : Go.Dn.RB w (some ⟨b, 0, none⟩) l := fun i hi => ⟨_, rfl, by rw [HB.cell h]; simp [hi]⟩
theorem BB.below {w w' : World} {b : Nat} {l : List UInt8} (h : BB w b l) (k : Below w.heap.size w w') : BB w' b l := HB.below h k
theorem bb_st {w : World} {b i : Nat} {l : List UInt8} (h : BB w b l) (hi : i < l.length) {x : Int} {v : UInt8} (hx : x = (v.toNat : Int)) {K : World → Prop} (hk : ∀ w', BB w' b (l.set i v) → Keeps (fun k => k = b) w w' → K w') : stW w ((⟨b, 0, none⟩ : Addr).add i) (.int .u8 x) K := by
  refine hb_st h (by simpa using hi) fun w' h' k' => hk w' ?_ k'
  subst hx
  unfold BB
  rw [List.map_set]
  simpa [byteV] using h'
theorem mk_bytes {w : World} {n : Nat} (hn : n ≤ 65536) {K : Value → World → Prop} (hK : ∀ w', BB w' w.heap.size (List.replicate n 0) → Below w.heap.size w w' → w'.heap.size = w.heap.size + 1 ∨ True → K (.slice (some ⟨w.heap.size, 0, none⟩) n n) w') :
    Runs Tryd.prog (Instr.makeSlice 22 (.int .i64 (n : Int)) (.int .i64 (n : Int))) w K := by
  obtain ⟨i, hi, hz, hs, hby⟩ := TBy.info
  obtain ⟨w1, hrun, ho, hg⟩ := run_makeSlice_full (P := Tryd.prog) w w.heap.size 22 5 i (.int .u8 0) 1 TBy.und hi hz hs .i64 .i64 n (by omega) (by rw [hby]; omega) (by unfold maxLen; omega) (Nat.le_refl _)
  have b1 : Below w.heap.size w w1 := ⟨hg.os, hg.tape, hg.output, hg.size, fun k hk => hg.block k hk (by simp)⟩
  refine runs_of hrun (hK w1 ?_ b1 (.inr trivial))
  obtain ⟨hl, h⟩ := ho
  rcases h with ⟨h, _⟩ | ⟨g, cap, cur, hv, hg, hh, hn, hm, hs, ht⟩
  · cases h
  · injection hv with hA hn' hc
    injection hA with hA
    injection hA with hA
    subst hA
    unfold BB HB
    rw [hh]
    congr 2
    apply Array.ext'
    rw [← hc, ← Array.length_toList] at hs
    rw [List.take_of_length_le (by rw [hs]; omega)] at ht
    rw [ht]
    simp only [Nat.mul_one, List.map_replicate]
    apply List.ext_getElem
    · simp [size_madeCells]
    · intro j h1 h2
      simp [madeCells, Value.cells, byteV, Nat.mod_one]
theorem copy_bb {w : World} {b off : Nat} {cur : List UInt8} (hb : BB w b cur) {A : Option Addr} {l : List UInt8} {n c m cc : Nat} (hn : n = l.length) (hr : Go.Dn.RB w A l) (hm : m = cur.length - off) (hl : off + l.length ≤ cur.length) {K : Value → World → Prop} (hk : ∀ w', BB w' b (cur.take off ++ l ++ cur.drop (off + l.length)) → Keeps (fun k => k = b) w w' → K (.int .i64 (l.length : Int)) w') :
    Runs Tryd.prog (Builtin.copy_ #[22, 22] 3 #[.slice (some ⟨b, off, none⟩) m cc, .slice A n c]) w K := by
  subst hn
  have hu : Tryd.prog.underlying 22 = some (.slice 5) := by kernel_rfl
  have hs : (Tryd.prog.info? 5).map (·.size) = some 1 := by kernel_rfl
  by_cases h0 : l = []
  · subst h0
    have := run_copy_none (P := Tryd.prog) w 22 22 3 5 (some ⟨b, off, none⟩) A m cc 0 c hu hs (by simp)
    refine runs_of this (hk w ?_ (.refl _ _))
    simpa using hb
  · obtain ⟨a, ha, _⟩ := hr 0 (List.length_pos_iff.2 h0)
    subst ha
    have hmm : Nat.min l.length m = l.length := by show min l.length m = l.length; omega
    have := run_copy_row (P := Tryd.prog) w 22 22 3 5 b off m cc a l.length c (cur.map byteV).toArray TU8 (l.map byteV) hu hs hb (by rw [List.length_map, hmm]) (fun j v hj => by
      rw [List.getElem?_map] at hj
      obtain ⟨x, hx, rfl⟩ := Option.map_eq_some_iff.1 hj
      obtain ⟨hjl, rfl⟩ := List.getElem?_eq_some_iff.1 hx
      obtain ⟨a', ha', hc⟩ := hr j hjl
      injection ha' with ha'; subst ha'
      exact hc) (by rw [List.length_map]; simp; omega) (fun v hv => by obtain ⟨x, _, rfl⟩ := List.mem_map.1 hv; rfl)
    have e : ((cur.map byteV).toArray.toList.take off ++ l.map byteV ++ (cur.map byteV).toArray.toList.drop (off + (l.map byteV).length)).toArray = ((cur.take off ++ l ++ cur.drop (off + l.length)).map byteV).toArray := by
      simp [List.map_take, List.map_drop]
    rw [e] at this
    refine runs_of this ?_
    have := hk (w.setRow b ((cur.take off ++ l ++ cur.drop (off + l.length)).map byteV).toArray) (HB.setRow hb _) (setRow_keeps _ _ _)
    simpa [goInt] using this
theorem u8div (r m : Nat) : IntKind.u8.wrap ((r : Int).fdiv (m : Int)) = ((UInt8.ofNat (r / m)).toNat : Int) := by
  rw [u8w, UInt8.toNat_ofNat', Int.fdiv_eq_ediv_of_nonneg _ (Int.natCast_nonneg _)]
  omega

/-- bytes laid over others -/
def putB (b : List UInt8) : Nat → List UInt8 → List UInt8
  | _, [] => b
  | o, v :: r => putB (b.set o v) (o + 1) r
theorem putB_len : ∀ (l b : List UInt8) (o : Nat), (putB b o l).length = b.length
  | [], _, _ => rfl
  | v :: r, b, o => by rw [putB, putB_len r, List.length_set]
theorem putB_eq : ∀ (l b : List UInt8) (o : Nat), o + l.length ≤ b.length → putB b o l = b.take o ++ l ++ b.drop (o + l.length)
  | [], b, o, h => by simp [putB]
  | v :: r, b, o, h => by
    rw [List.length_cons] at h
    rw [putB, putB_eq r _ (o + 1) (by rw [List.length_set]; omega)]
    rw [List.set_eq_take_append_cons_drop, if_pos (by omega)]
    have e1 : (b.take o ++ v :: b.drop (o + 1)).take (o + 1) = b.take o ++ [v] := by
      rw [List.take_append, List.take_of_length_le (by rw [List.length_take]; omega), List.length_take, Nat.min_eq_left (by omega), show o + 1 - o = 1 by omega]; rfl
    have e2 : (b.take o ++ v :: b.drop (o + 1)).drop (o + 1 + r.length) = b.drop (o + (r.length + 1)) := by
      rw [List.drop_append, List.drop_of_length_le (by rw [List.length_take]; omega), List.length_take, Nat.min_eq_left (by omega), List.nil_append, show o + 1 + r.length - o = r.length + 1 by omega, List.drop_succ_cons, List.drop_drop, show o + 1 + r.length = o + (r.length + 1) by omega]
    rw [e1, e2, List.length_cons]
    simp
def leN : Nat → Nat → List UInt8
  | 0, _ => []
  | n + 1, x => UInt8.ofNat x :: leN n (x / 256)
theorem leN_len : ∀ n x, (leN n x).length = n
  | 0, _ => rfl
  | n + 1, x => by rw [leN, List.length_cons, leN_len n]
section
variable {w w' : World} {B : Nat} {X : Nat → Prop} {ρ : RPg} {p : Pg}
theorem setLow_l0 {g off c n : Nat} {w0 : World} {K : World → Prop} : ∀ (m i x : Nat) (w : World) (b : List UInt8), m + i = n → n ≤ 1000 → off + n ≤ b.length → BB w g b → Keeps (fun k => k = g) w0 w →
    (∀ w', BB w' g (putB b (off + i) (leN m x)) → Keeps (fun k => k = g) w0 w' → K w') → f_page_setLow.l0 (m + 1) (some ⟨g, off, none⟩) n c (x : Int) (n : Int) (i : Int) w K := by
  intro m
  induction m with
  | zero =>
    intro i x w b hi hn hl hb hk hK
    unfold f_page_setLow.l0
    exact sel_f (by simp; omega) (hK w hb hk)
  | succ m ih =>
    intro i x w b hi hn hl hb hk hK
    unfold f_page_setLow.l0
    refine sel_t (by simp; omega) (optB_some rfl (req_intro (by simp; omega) ?_))
    rw [Int.toNat_natCast, Nat.mul_one, show (⟨g, off, none⟩ : Addr).add i = (⟨g, 0, none⟩ : Addr).add (off + i) by rw [add_mk, add_mk, Nat.zero_add]]
    refine bb_st hb (by omega) (v := UInt8.ofNat x) (by rw [u8w, UInt8.toNat_ofNat']; omega) fun w' h' k' => ?_
    have e1 : (x : Int).fdiv (2 ^ 8) = ((x / 256 : Nat) : Int) := by
      rw [Int.fdiv_eq_ediv_of_nonneg _ (by decide)]; omega
    rw [e1, show IntKind.i64.wrap ((i : Int) + 1) = ((i + 1 : Nat) : Int) by rw [w64_in (by omega)]; omega]
    exact ih (i + 1) (x / 256) w' _ (by omega) hn (by rw [List.length_set]; exact hl) h' (hk.trans k') hK
theorem setLow_ok {g off c n x : Nat} {b : List UInt8} (hb : BB w g b) (hl : off + n ≤ b.length) (hn : n ≤ 1000) :
    Calls Tryd.prog 40 #[.slice (some ⟨g, off, none⟩) n c, .int .u64 (x : Int)] w fun e w' => e = .returned (.tuple #[]) ∧ BB w' g (putB b off (leN n x)) ∧ Keeps (fun k => k = g) w w' := by
  apply f_page_setLow.ok
  unfold f_page_setLow.wp
  exact ⟨n + 1, setLow_l0 (w0 := w) n 0 x w b rfl hn hl hb (.refl _ _) fun w' h k _ => ⟨rfl, h, k⟩⟩
/-- the slots and the items, laid from the end -/
def slotsB : List (List UInt8) → Nat → Nat → List UInt8 → List UInt8
  | [], _, _, b => b
  | x :: r, i, e, b => slotsB r (i + 1) (e - x.length) (((putB b (e - x.length) x).set (18 + 2 * i) (UInt8.ofNat (e - x.length))).set (18 + 2 * i + 1) (UInt8.ofNat ((e - x.length) / 256)))
theorem slotsB_len : ∀ (r : List (List UInt8)) (i e : Nat) (b : List UInt8), (slotsB r i e b).length = b.length
  | [], _, _, _ => rfl
  | x :: r, i, e, b => by rw [slotsB, slotsB_len r, List.length_set, List.length_set, putB_len]
def headB (p : Pg) : List UInt8 := (putB ((putB (List.replicate 512 0) 4 (leN 8 p.lsn)).set 12 p.kind) 13 (leN 4 p.extra)).set 17 (UInt8.ofNat p.items.length)
def rawL (p : Pg) : List UInt8 := slotsB p.items 0 512 (headB p)
def bytesL (p : Pg) : List UInt8 := sealL ((rawL p).drop 4)
theorem headB_len (p : Pg) : (headB p).length = 512 := by simp [headB, putB_len]
theorem rawL_len (p : Pg) : (rawL p).length = 512 := by rw [rawL, slotsB_len, headB_len]
theorem Bytes_l0 {g : Nat} {its : List (List UInt8)} {ms : List SM} {A : Option Addr} {c : Nat} {N : Nat → Prop} {w0 : World} (hr : RowE eS 1 w0 A ms) (hv : ItsM w0 N ms its) (hn : its.length ≤ 100) (hu : 18 + 2 * its.length + lensL its ≤ 512) (hg : w0.heap.size ≤ g) {K : World → Prop} :
    ∀ (m i e : Nat) (w : World) (b : List UInt8), m + i = its.length → e + lensL (its.take i) = 512 → b.length = 512 → BB w g b → Below w0.heap.size w0 w → (∀ w', BB w' g (slotsB (its.drop i) i e b) → Below w0.heap.size w0 w' → K w') →
      f_page_Page_Bytes.l0 (m + 1) (some ⟨g, 0, none⟩) 512 512 (e : Int) A its.length c (its.length : Int) (i : Int) w K := by
  intro m
  induction m with
  | zero =>
    intro i e w b hi he hb hbb hk hK
    unfold f_page_Page_Bytes.l0
    have : its.drop i = [] := List.drop_eq_nil_of_le (by omega)
    rw [this] at hK
    exact sel_f (by simp; omega) (hK w hbb hk)
  | succ m ih =>
    intro i e w b hi he hb hbb hk hK
    have hlt : i < its.length := by omega
    have him : i < ms.length := by rw [hv.1]; exact hlt
    have hq := hv.2 i him hlt
    have ht := lensL_take its hlt
    have hle := lensL_le its (i + 1)
    obtain ⟨a, ea, hc⟩ := (hr.below ES hk) i him
    have hc0 := hc 0 (by decide)
    rw [Go.Dn.add_zero] at hc0
    obtain ⟨e', hee⟩ : ∃ e', e - its[i].length = e' := ⟨_, rfl⟩
    have hx : e = e' + its[i].length := by omega
    unfold f_page_Page_Bytes.l0
    refine sel_t (by simpa using hlt) (optB_some ea (req_intro (by simp; omega) ?_))
    rw [Int.toNat_natCast]
    refine ldS_intro (A := ms[i].1) (n := ms[i].2.1) (c := ms[i].2.2) hc0 ?_
    rw [hq.n]
    have ew : IntKind.i64.wrap ((e : Int) - (its[i].length : Int)) = (e' : Int) := by rw [w64_in (by omega)]; omega
    have e18 : IntKind.i64.wrap ((18 : Int) + IntKind.i64.wrap ((2 : Int) * (i : Int))) = ((18 + 2 * i : Nat) : Int) := by rw [w64_in (x := 2 * (i : Int)) (by omega), w64_in (by omega)]; omega
    have e19 : IntKind.i64.wrap (((18 + 2 * i : Nat) : Int) + 1) = ((18 + 2 * i + 1 : Nat) : Int) := by rw [w64_in (by omega)]; omega
    rw [ew, e18, e19]
    refine req_intro (by simp; omega) ?_
    rw [Int.toNat_natCast, Int.toNat_natCast, Int.toNat_natCast]
    have esl : (slA (some (⟨g, 0, none⟩ : Addr)) e' 512 1 = some ⟨g, e', none⟩) ∨ its[i].length = 0 := by
      by_cases c : 512 = e'
      · right; omega
      · exact .inl (slA_some c)
    have cp : ∀ {K : World → Prop}, (∀ w', BB w' g (putB b e' its[i]) → Keeps (fun k => k = g) w w' → K w') → Runs Tryd.prog (Builtin.copy_ #[22, 22] 3 #[.slice (slA (some (⟨g, 0, none⟩ : Addr)) e' 512 1) (512 - e') (512 - e'), .slice ms[i].1 its[i].length ms[i].2.2]) w fun v w' => ∃ x : Int, v = .int .i64 x ∧ K w' := by
      intro K hk2
      rcases esl with esl | h0
      · rw [esl]
        refine copy_bb hbb rfl (hq.rb.below hk (Nat.le_refl _)) (by omega) (by omega) fun w' h' k' => ⟨_, rfl, hk2 w' ?_ k'⟩
        rw [putB_eq _ _ _ (by omega)]; exact h'
      · have hnil : its[i] = [] := List.length_eq_zero_iff.1 h0
        have hu : Tryd.prog.underlying 22 = some (.slice 5) := by kernel_rfl
        have hs : (Tryd.prog.info? 5).map (·.size) = some 1 := by kernel_rfl
        have := run_copy_none (P := Tryd.prog) w 22 22 3 5 (slA (some (⟨g, 0, none⟩ : Addr)) e' 512 1) ms[i].1 (512 - e') (512 - e') its[i].length ms[i].2.2 hu hs (by rw [h0]; simp)
        refine runs_of this ⟨_, rfl, hk2 w ?_ (.refl _ _)⟩
        rw [hnil]; exact hbb
    refine cp fun w1 h1 k1 => optB_some rfl (req_intro (by simp; omega) ?_)
    rw [Nat.mul_one, Nat.mul_one]
    refine bb_st h1 (by rw [putB_len]; omega) (v := UInt8.ofNat e') (by rw [u8w, UInt8.toNat_ofNat']; omega) fun w2 h2 k2 => optB_some rfl (req_intro (by simp; omega) ?_)
    have e1 : (e' : Int).fdiv (2 ^ 8) = ((e' / 256 : Nat) : Int) := by rw [Int.fdiv_eq_ediv_of_nonneg _ (by decide)]; omega
    rw [e1]
    refine bb_st h2 (by rw [List.length_set, putB_len]; omega) (v := UInt8.ofNat (e' / 256)) (by rw [u8w, UInt8.toNat_ofNat']; omega) fun w3 h3 k3 => ?_
    rw [show IntKind.i64.wrap ((i : Int) + 1) = ((i + 1 : Nat) : Int) by rw [w64_in (by omega)]; omega]
    refine ih (i + 1) e' w3 _ (by omega) (by omega) (by rw [List.length_set, List.length_set, putB_len]; exact hb) h3 (hk.trans (((k1.trans k2).trans k3).below hk.size fun k hk e => by omega)) fun w' h' g' => ?_
    refine hK w' ?_ g'
    rw [List.drop_eq_getElem_cons hlt, slotsB, hee]
    exact h'
theorem Bytes_pg (h : PM w B X ρ p) : Calls Tryd.prog 15 #[.pointer (some ⟨ρ.P, 0, none⟩)] w fun e w' => ∃ A c, e = .returned (.slice A 512 c) ∧ OwnB w' w.heap.size TU8 A c (bytesL p) ∧ (bytesL p).length = 512 ∧ Below w.heap.size w w' := by
  have hn := h.ok.n
  have hl := h.ok.l
  have he := h.ok.e
  have hlen : (bytesL p).length = 512 := by
    unfold bytesL sealL
    rw [List.length_append, List.length_drop, rawL_len]; rfl
  apply f_page_Page_Bytes.ok
  unfold f_page_Page_Bytes.wp
  refine mk_bytes (n := 512) (by decide) fun w1 h1 g1 _ => ⟨_, _, _, rfl, drW_intro (req_intro (by decide) ?_)⟩
  obtain ⟨g, hg⟩ : ∃ g, w.heap.size = g := ⟨_, rfl⟩
  have hgw : w.heap.size ≤ g := by omega
  rw [hg] at h1
  rw [hg]
  have gd : Below w1.heap.size w1 w1.drew := (Below.refl _ _).drew
  have g1d := g1.trans (gd.mono g1.size)
  have hp := h.below g1d
  have out : ∀ {w' w''}, Below w.heap.size w w' → Keeps (fun k => k = g) w' w'' → Below w.heap.size w w'' := fun g' k => g'.trans (k.below g'.size fun k hk e => by omega)
  have nP : ρ.P ≠ g := fun e => by have := h.hb.lt; omega
  refine hb_ldI0 hp.hb (x := (p.lsn : Int)) rfl ?_
  rw [slA_some (by decide), show IntKind.u64.wrap (p.lsn : Int) = (p.lsn : Int) by simp [IntKind.wrap, IntKind.bits, IntKind.signed]; omega]
  refine (setLow_ok (n := 8) (HB.below h1 gd) (by simp) (by decide)).mono ?_
  rintro _ w2 ⟨rfl, h2, k2⟩
  have hb2 := hp.hb.keeps k2 nP
  refine ⟨rfl, hb_ldI hb2 (j := 1) (x := (p.kind.toNat : Int)) rfl (optB_some rfl (req_intro (by decide) ?_))⟩
  rw [show ((12 : Int).toNat * 1) = 12 from rfl]
  refine bb_st h2 (by rw [putB_len]; simp) (v := p.kind) rfl fun w3 h3 k3 => drW_intro (req_intro (by decide) ?_)
  have gd3 : Below w3.heap.size w3 w3.drew := (Below.refl _ _).drew
  have hb3 := (hb2.keeps k3 nP).below gd3
  refine hb_ldI hb3 (j := 2) (x := (p.extra : Int)) rfl ?_
  rw [slA_some (by decide), show IntKind.u64.wrap (p.extra : Int) = (p.extra : Int) by simp [IntKind.wrap, IntKind.bits, IntKind.signed]; omega]
  refine (setLow_ok (n := 4) (HB.below h3 gd3) (by rw [List.length_set, putB_len]; simp) (by decide)).mono ?_
  rintro _ w4 ⟨rfl, h4, k4⟩
  have hb4 := hb3.keeps k4 nP
  refine ⟨rfl, hb_ldS hb4 (j := 3) (A := ρ.A) (n := p.items.length) (c := ρ.c) rfl (optB_some rfl (req_intro (by decide) ?_))⟩
  rw [show ((17 : Int).toNat * 1) = 17 from rfl]
  refine bb_st h4 (by rw [putB_len, List.length_set, putB_len]; simp) (v := UInt8.ofNat p.items.length) (by rw [u8w, UInt8.toNat_ofNat']; omega) fun w5 h5 k5 => ?_
  have hb5 := hb4.keeps k5 nP
  refine hb_ldS hb5 (j := 3) (A := ρ.A) (n := p.items.length) (c := ρ.c) rfl ?_
  have g05 : Below w.heap.size w w5 := out (out ((out (out g1d k2) k3).trans (gd3.mono (by have := g1d.size; have := k2.size; have := k3.size; omega))) k4) k5
  obtain ⟨ms, m1, m2⟩ := h.rc
  refine ⟨_, Bytes_l0 (w0 := w) (its := p.items) (m1.reads ES) m2 hn h.ok.u hgw p.items.length 0 512 w5 _ rfl (by simp [lensL]) (headB_len p) h5 g05 fun w6 h6 g6 _ => req_intro (by decide) ?_⟩
  have h6' : BB w6 g (rawL p) := h6
  have rb : Go.Dn.RB w6 (some ⟨g, 4, none⟩) ((rawL p).drop 4) := fun i hi => by
    rw [List.length_drop, rawL_len] at hi
    obtain ⟨a, ea, hc⟩ := h6'.rb (4 + i) (by rw [rawL_len]; omega)
    cases ea
    refine ⟨⟨g, 4, none⟩, rfl, ?_⟩
    rw [add_mk] at hc ⊢
    rw [Nat.zero_add] at hc
    rw [hc, List.getElem_drop]
  refine (Seal_ok rb (by rw [List.length_drop, rawL_len]) (fun h => by cases h) (by rw [List.length_drop, rawL_len]; decide)).mono ?_
  rintro _ w7 ⟨A7, c7, rfl, o7, g7⟩
  subst hg
  refine ⟨_, _, _, rfl, A7, c7, ?_, o7.mono g6.size, hlen, g6.trans (g7.mono g6.size)⟩
  show Ending.returned (.slice A7 (bytesL p).length c7) = _
  rw [hlen]
end
end Go.Proofs.YtifambgaekjilaaDoor.Rd
