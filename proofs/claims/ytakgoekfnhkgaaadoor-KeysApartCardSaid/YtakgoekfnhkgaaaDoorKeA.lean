/- keys.Name: strings.Trim by the small letters. Conditions: none. -/
import Derived.Deep.MidRow
import Derived.Deep.WholeRow
import Derived.Laws.CopyRow
import Derived.Lib.RuneCountTail
import Derived.Lib.Strings
import Derived.Lib.Split
import Derived.Lib.IndexBytes
import Derived.Test.YtakgoekfnhkgaaaDoorKnI
import Derived.Test.YtakgoekfnhkgaaaDoorHBw
namespace Go.Proofs.YtakgoekfnhkgaaaDoor.Rd
open Go.Dn Go.RowKit
set_option linter.unusedVariables false
set_option linter.unusedSimpArgs false
set_option maxRecDepth 100000
theorem setRow_keeps (w : World) (g : Nat) (cs : Array Value) : Keeps (fun k => k = g) w (w.setRow g cs) :=
  ⟨rfl, rfl, rfl, by simp [World.setRow], fun k hk hn => by
    have hn : ¬ g = k := fun e => hn e.symm
    simp [World.setRow, Array.getElem?_modify, hn]⟩
theorem HB.setRow {w : World} {b : Nat} {cs : Array Value} {t : TypeId} (h : HB w b cs t) (cs' : Array Value) : HB (w.setRow b cs') b cs' t := by
  unfold HB at *
  simp [World.setRow, Array.getElem?_modify, h]
abbrev TA : TypeId := 95
/-- a table of 256 marks -/
abbrev Tb := { l : List Bool // l.length = 256 }
def tbL (s : Tb) : List Value := s.1.map .bool
def tbV (s : Tb) : Array Value := (tbL s).toArray
theorem tbV_size (s : Tb) : (tbV s).size = 256 := by simp [tbV, tbL, s.2]
theorem tbL_len (s : Tb) : (tbL s).length = 256 := by simp [tbL, s.2]
theorem tbL_one (s : Tb) : ∀ u ∈ tbL s, u.oneCell' = true := fun u hu => by
  obtain ⟨x, _, rfl⟩ := List.mem_map.1 hu
  rfl
theorem TAu : Tryd.prog.underlying TA = some (.array 256 4) := by kernel_rfl
theorem TAi : (Tryd.prog.info? TA).map (·.size) = some 256 := by kernel_rfl
def tb0 : Tb := ⟨List.replicate 256 false, by simp⟩
theorem zeroCs_tb : zeroCs Tryd.prog TA = tbV tb0 := by kernel_rfl
def tbS (s : Tb) (c : Nat) : Tb := ⟨s.1.set c true, by rw [List.length_set]; exact s.2⟩
theorem tbV_set (s : Tb) (c : Nat) : (tbV s).setIfInBounds c (.bool true) = tbV (tbS s c) := by
  unfold tbV tbL tbS
  simp [List.map_set]
section
variable {w : World} {b : Nat} {s s' : Tb}
theorem tb_ld0 (h : HB w b (tbV s) TA) {K : Value → World → Prop} (hk : K (.agg (tbV s)) w) : Runs Tryd.prog (Instr.loadAt TA (.pointer (some ⟨b, 0, none⟩))) w K := by
  refine runs_of ?_ hk
  have := run_loadAt_mid (P := Tryd.prog) w b 0 TA (tbL s) (.array 256 4) (fun j v hj => by rw [Nat.zero_add]; have := h.cell j; rw [add_mk, Nat.zero_add] at this; rw [this, ← hj]; simp [tbV]) TAu rfl (by rw [TAi, tbL_len])
  exact this
theorem tb_ldv (h : HB w b (tbV s) TA) {K : Array Value → Prop} (hk : K (tbV s)) : ldBig Tryd.prog w TA (⟨b, 0, none⟩ : Addr) K := by
  refine ⟨_, ?_, hk⟩
  exact run_loadVar_mid (P := Tryd.prog) w b 0 TA (tbL s) (.array 256 4) (fun j v hj => by rw [Nat.zero_add]; have := h.cell j; rw [add_mk, Nat.zero_add] at this; rw [this, ← hj]; simp [tbV]) TAu rfl (by rw [TAi, tbL_len])
theorem tb_st0 (h : HB w b (tbV s) TA) {K : Unit → World → Prop} (hk : ∀ w', HB w' b (tbV s') TA → Keeps (fun k => k = b) w w' → K () w') : Runs Tryd.prog (Instr.storeAt TA (.pointer (some ⟨b, 0, none⟩)) (.agg (tbV s'))) w K := by
  refine runs_of (w' := w.setRow b (tbV s')) ?_ (hk _ (HB.setRow h _) (setRow_keeps w b _))
  have one : (tbV s').all (·.oneCell') = true := by
    rw [Array.all_eq_true_iff_forall_mem]
    intro v hv
    exact tbL_one s' v (by simpa [tbV] using hv)
  have := run_storeVar_row (P := Tryd.prog) w b TA TA (tbV s) (tbV s') h (by rw [TAi, tbV_size]) (by rw [tbV_size, tbV_size]) one
  simp only [Instr.storeAt, Instr.sureAddr, Sem.run_bind, Sem.run_pure, Result.andThen]
  exact this
end
/-! ### strings -/
def sL (s : ByteArray) : List UInt8 := s.data.toList
theorem sL_size (s : ByteArray) : s.size = (sL s).length := rfl
theorem sL_get (s : ByteArray) (i : Nat) : s.get! i = (sL s).getD i 0 := (Lib.getD_get!' s i).symm
theorem sL_eq (s t : ByteArray) : (s.toList == t.toList) = decide (sL s = sL t) := by
  rw [ByteArray.toList_eq, ByteArray.toList_eq]
  unfold sL
  by_cases h : s.data.toList = t.data.toList
  · rw [decide_eq_true h, beq_iff_eq]; exact h
  · rw [decide_eq_false h]; exact beq_false_of_ne h
theorem sL_nil : sL (⟨#[]⟩ : ByteArray) = [] := rfl
theorem sL_tail (s : ByteArray) : sL (s.extract 1 s.size) = (sL s).drop 1 := Lib.extract_to_end s 1
theorem sL_head (s : ByteArray) (n : Nat) : sL (s.extract 0 n) = (sL s).take n := Lib.extract_from_zero s n
section
variable {w : World} {b : Nat}
def mem (t : Tb) (c : UInt8) : Bool := t.1.getD c.toNat false
def fillT (t : Tb) (l : List UInt8) : Tb := l.foldl (fun t c => tbS t c.toNat) t
theorem MkSet_l0 {s : ByteArray} (ha : ∀ c ∈ sL s, c.toNat < 128) (hl : (sL s).length ≤ 1000) {K : World → Prop} {Kr : Bool → World → Prop} {w0 : World} :
    ∀ (m i : Nat) (w : World), m + i = (sL s).length → HB w b (tbV (fillT tb0 ((sL s).take i))) TA → Keeps (fun k => k = b) w0 w → (∀ w', HB w' b (tbV (fillT tb0 (sL s))) TA → Keeps (fun k => k = b) w0 w' → K w') → f_strings_makeASCIISet.l0 (m + 1) s ⟨b, 0, none⟩ (i : Int) w K Kr := by
  intro m
  induction m with
  | zero =>
    intro i w hi hb hk hK
    unfold f_strings_makeASCIISet.l0
    rw [List.take_of_length_le (by omega)] at hb
    exact sel_f (by rw [sL_size]; simp; omega) (hK w hb hk)
  | succ m ih =>
    intro i w hi hb hk hK
    have hlt : i < (sL s).length := by omega
    have hc : s.get! i = (sL s)[i] := by rw [sL_get, List.getD_eq_getElem?_getD, List.getElem?_eq_getElem hlt]; rfl
    have hc1 := ha _ (List.getElem_mem hlt)
    unfold f_strings_makeASCIISet.l0
    refine sel_t (by rw [sL_size]; simp; omega) (req_intro (by rw [sL_size]; simp; omega) ?_)
    rw [Int.toNat_natCast, hc]
    refine sel_f (by simp; omega) (req_intro (by simp; omega) ?_)
    rw [Int.toNat_natCast, Nat.mul_one]
    refine hb_st hb (by rw [tbV_size]; omega) fun w' h' k' => ?_
    rw [tbV_set] at h'
    rw [show IntKind.i64.wrap ((i : Int) + 1) = ((i + 1 : Nat) : Int) by rw [w64_in (by omega)]; omega]
    refine ih (i + 1) w' (by omega) ?_ (hk.trans k') hK
    rw [List.take_succ_eq_append_getElem hlt]
    unfold fillT at h' ⊢
    rw [List.foldl_append]
    exact h'
theorem MkSet_ok {s : ByteArray} (ha : ∀ c ∈ sL s, c.toNat < 128) (hl : (sL s).length ≤ 1000) :
    Calls Tryd.prog 62 #[.string s] w fun e w' => e = .returned (.tuple #[.agg (tbV (fillT tb0 (sL s))), .bool true]) ∧ Below w.heap.size w w' := by
  apply f_strings_makeASCIISet.ok
  unfold f_strings_makeASCIISet.wp
  rw [zeroCs_tb]
  refine al_new fun w1 b e1 s1 h1 g1 => ⟨(sL s).length + 1, MkSet_l0 (w0 := w1) ha hl (sL s).length 0 w1 (by omega) h1 (.refl _ _) fun w2 h2 k2 _ => tb_ld0 h2 ⟨_, rfl, tb_st0 h2 fun w3 h3 k3 => tb_ldv h3 ⟨rfl, ?_⟩⟩⟩
  exact (g1.trans (k2.below g1.size fun k hk e => by omega)).trans (k3.below (by have := k2.size; omega) fun k hk e => by omega)
theorem Contains_ok {t : Tb} (h : HB w b (tbV t) TA) (c : UInt8) : Calls Tryd.prog 72 #[.pointer (some ⟨b, 0, none⟩), .int .u8 (c.toNat : Int)] w fun e w' => e = .returned (.bool (mem t c)) ∧ w' = w := by
  apply f_strings_asciiSet_contains.ok
  unfold f_strings_asciiSet_contains.wp
  have hc := c.toNat_lt
  refine optB_some rfl (req_intro (by simp; omega) ⟨mem t c, ?_, rfl, rfl⟩)
  rw [Int.toNat_natCast, Nat.mul_one, h.cell]
  unfold mem tbV tbL
  rw [List.getD_eq_getElem?_getD, List.getElem?_toArray, List.getElem?_map, List.getElem?_eq_getElem (by rw [t.2]; omega)]
  rfl
/-- what a trimming does, as far as we ask -/
def Tr (t : Tb) (l l' : List UInt8) : Prop := (l.all (mem t) = true → l' = []) ∧ (l.all (mem t) = false → l'.any (fun c => !mem t c) = true)
theorem any_all (t : Tb) (l : List UInt8) : l.any (fun c => !mem t c) = !l.all (mem t) := by
  induction l with
  | nil => rfl
  | cons a l ih => simp [ih]
theorem TrimL_l0 {t : Tb} (h : HB w b (tbV t) TA) {K : ByteArray → World → Prop} : ∀ (m : Nat) (s : ByteArray), (sL s).length = m → (∀ s', Tr t (sL s) (sL s') → K s' w) → f_strings_trimLeftASCII.l0 (m + 1) s (some ⟨b, 0, none⟩) w K := by
  intro m
  induction m with
  | zero =>
    intro s hm hK
    unfold f_strings_trimLeftASCII.l0
    have hn : sL s = [] := List.length_eq_zero_iff.1 hm
    exact sel_f (by rw [sL_size]; simp; omega) (hK s ⟨fun _ => hn, fun h => by rw [hn] at h; cases h⟩)
  | succ m ih =>
    intro s hm hK
    unfold f_strings_trimLeftASCII.l0
    obtain ⟨c, l, hcl⟩ : ∃ c l, sL s = c :: l := by
      cases hh : sL s with
      | nil => rw [hh] at hm; cases hm
      | cons c l => exact ⟨c, l, rfl⟩
    have hc : s.get! 0 = c := by rw [sL_get, hcl]; rfl
    refine sel_t (by rw [sL_size]; simp; omega) (req_intro (by rw [sL_size]; simp; omega) ?_)
    rw [show (0 : Int).toNat = 0 from rfl, hc]
    refine (Contains_ok h c).mono ?_
    rintro _ w ⟨rfl, rfl⟩
    refine ⟨_, rfl, ?_⟩
    by_cases q : mem t c = true
    · refine sel_f (by simp [q]) (req_intro (by rw [sL_size]; simp; omega) ?_)
      have ht := sL_tail s
      rw [hcl] at ht
      have ht : sL (s.extract 1 s.size) = l := ht
      refine ih _ (by rw [ht]; rw [hcl] at hm; simpa using hm) fun s' h' => hK s' ?_
      rw [ht] at h'
      rw [hcl]
      refine ⟨fun ha => h'.1 ?_, fun ha => h'.2 ?_⟩
      · simpa [q] using ha
      · simpa [q] using ha
    · refine sel_t (by simp [q]) (hK s ⟨fun ha => ?_, fun ha => ?_⟩)
      · rw [hcl] at ha; simp [q] at ha
      · rw [any_all, ha]; rfl
theorem TrimR_l0 {t : Tb} (h : HB w b (tbV t) TA) {K : ByteArray → World → Prop} : ∀ (m : Nat) (s : ByteArray), (sL s).length = m → m ≤ 1000 → (∀ s', Tr t (sL s) (sL s') → K s' w) → f_strings_trimRightASCII.l0 (m + 1) s (some ⟨b, 0, none⟩) w K := by
  intro m
  induction m with
  | zero =>
    intro s hm hl hK
    unfold f_strings_trimRightASCII.l0
    have hn : sL s = [] := List.length_eq_zero_iff.1 hm
    exact sel_f (by rw [sL_size]; simp; omega) (hK s ⟨fun _ => hn, fun h => by rw [hn] at h; cases h⟩)
  | succ m ih =>
    intro s hm hl hK
    unfold f_strings_trimRightASCII.l0
    have hlt : m < (sL s).length := by omega
    have hc : s.get! m = (sL s)[m] := by rw [sL_get, List.getD_eq_getElem?_getD, List.getElem?_eq_getElem hlt]; rfl
    have ez : IntKind.i64.wrap ((s.size : Int) - 1) = (m : Int) := by rw [sL_size, w64_in (by omega)]; omega
    refine sel_t (by rw [sL_size]; simp; omega) ?_
    rw [ez]
    refine req_intro (by rw [sL_size]; simp; omega) ?_
    rw [Int.toNat_natCast, hc]
    refine (Contains_ok h _).mono ?_
    rintro _ w ⟨rfl, rfl⟩
    refine ⟨_, rfl, ?_⟩
    have hsp : sL s = (sL s).take m ++ [(sL s)[m]] := by rw [← List.take_succ_eq_append_getElem hlt, List.take_of_length_le (by omega)]
    by_cases q : mem t (sL s)[m] = true
    · refine sel_f (by simp [q]) (req_intro (by rw [sL_size]; simp; omega) ?_)
      have ht := sL_head s m
      refine ih _ (by rw [ht, List.length_take]; omega) (by omega) fun s' h' => hK s' ?_
      rw [ht] at h'
      rw [hsp]
      refine ⟨fun ha => h'.1 ?_, fun ha => h'.2 ?_⟩
      · rw [List.all_append] at ha; simpa [q] using ha
      · rw [List.all_append] at ha; simpa [q] using ha
    · refine sel_t (by simp [q]) (hK s ⟨fun ha => ?_, fun ha => ?_⟩)
      · rw [hsp, List.all_append] at ha; simp [q] at ha
      · rw [any_all, ha]; rfl
def letters : ByteArray := ⟨#[97, 98, 99, 100, 101, 102, 103, 104, 105, 106, 107, 108, 109, 110, 111, 112, 113, 114, 115, 116, 117, 118, 119, 120, 121, 122]⟩
def small (c : UInt8) : Bool := decide (97 ≤ c.toNat) && decide (c.toNat ≤ 122)
theorem mem_letters : ∀ c : UInt8, mem (fillT tb0 (sL letters)) c = small c := by
  have : ∀ i : Fin 256, mem (fillT tb0 (sL letters)) (UInt8.ofNat i.val) = small (UInt8.ofNat i.val) := by decide +kernel
  intro c
  have h := this ⟨c.toNat, c.toNat_lt⟩
  simpa using h
theorem Trim_ok {s : ByteArray} (hl : (sL s).length ≤ 1000) :
    Calls Tryd.prog 39 #[.string s, .string letters] w fun e w' => ∃ s', e = .returned (.string s') ∧ (sL s' = [] ↔ (sL s).all small = true) ∧ Below w.heap.size w w' := by
  apply f_strings_Trim.ok
  unfold f_strings_Trim.wp
  have hall : ∀ l : List UInt8, l.all (mem (fillT tb0 (sL letters))) = l.all small := fun l => by
    congr 1; funext c; exact mem_letters c
  by_cases q : sL s = []
  · refine sel_t (by rw [sL_eq, q]; rfl) ⟨s, rfl, ⟨fun _ => by rw [q]; rfl, fun _ => q⟩, Below.refl _ _⟩
  refine sel_f (by rw [sL_eq, sL_nil, decide_eq_false q]) (sel_f (by decide +kernel) (sel_f (by decide +kernel) ((MkSet_ok (s := letters) (by decide +kernel) (by decide +kernel)).mono ?_)))
  rintro _ w1 ⟨rfl, g1⟩
  refine ⟨_, _, rfl, ?_⟩
  rw [zeroCs_tb]
  refine al_new fun w2 b e2 s2 h2 g2 => tb_st0 h2 fun w3 h3 k3 => sel_t rfl (f_strings_trimRightASCII.ok _ _ _ _ ?_)
  have g3 : Below w.heap.size w w3 := (g1.trans (g2.mono g1.size)).trans (k3.below (by have := g1.size; omega) fun k hk e => by have := g1.size; omega)
  refine ⟨(sL s).length + 1, TrimR_l0 h3 _ s rfl hl fun s1 t1 _ => ⟨s1, rfl, f_strings_trimLeftASCII.ok _ _ _ _ ⟨(sL s1).length + 1, TrimL_l0 h3 _ s1 rfl fun s2 t2 _ => ⟨_, rfl, s2, rfl, ?_, g3⟩⟩⟩⟩
  unfold Tr at t1 t2
  rw [any_all, hall, hall] at t1 t2
  constructor
  · intro e
    cases hs : (sL s).all small with
    | true => rfl
    | false =>
      have := t1.2 hs
      have h2 := t2.2 (by simpa using this)
      rw [e] at h2; cases h2
  · intro hs
    have e1 := t1.1 hs
    exact t2.1 (by rw [e1]; rfl)
/-- is it a property's name? -/
def isName (l : List UInt8) : Bool := decide (l ≠ []) && decide (l.length ≤ 16) && l.all small
theorem Name_ok {s : ByteArray} (hl : (sL s).length ≤ 140737488355328) : Calls Tryd.prog 13 #[.string s] w fun e w' => e = .returned (.bool (isName (sL s))) ∧ Below w.heap.size w w' := by
  apply f_keys_Name.ok
  unfold f_keys_Name.wp isName
  by_cases q : sL s = []
  · exact sel_f (by rw [sL_eq, q]; rfl) ⟨by simp [q], Below.refl _ _⟩
  refine sel_t (by rw [sL_eq, sL_nil, decide_eq_false q]; rfl) ?_
  by_cases q2 : (sL s).length ≤ 16
  · refine sel_t (by rw [sL_size]; simp; omega) ((Trim_ok (w := w) (s := s) (by omega)).mono ?_)
    rintro _ w1 ⟨s', rfl, hs, g⟩
    refine ⟨_, rfl, ?_, g⟩
    rw [sL_eq]
    have e0 : sL (⟨#[]⟩ : ByteArray) = [] := rfl
    rw [e0, decide_eq_true q, decide_eq_true q2]
    congr 2
    cases h : (sL s).all small with
    | true => simpa using hs.2 h
    | false =>
      rw [decide_eq_false fun e => by rw [hs.1 e] at h; cases h]; rfl
  · exact sel_f (by rw [sL_size]; simp; omega) ⟨by rw [decide_eq_false q2]; simp, Below.refl _ _⟩
theorem RName_ok {s : ByteArray} (hl : (sL s).length ≤ 140737488355328) : Calls Tryd.prog 14 #[.string s] w fun e w' => e = .returned (.bool (isName (sL s))) ∧ w' = w := by
  apply f_ref04_Name.ok
  unfold f_ref04_Name.wp isName
  by_cases q : sL s = []
  · exact sel_t (by rw [sL_size, q]; rfl) ⟨by simp [q], rfl⟩
  have hpos : 0 < (sL s).length := List.length_pos_iff.2 q
  refine sel_f (by rw [sL_size]; simp; omega) ?_
  by_cases q2 : (sL s).length ≤ 16
  case neg => exact sel_t (by rw [sL_size]; simp; omega) ⟨by rw [decide_eq_false q2]; simp, rfl⟩
  refine sel_f (by rw [sL_size]; simp; omega) ⟨(sL s).length + 1, ?_⟩
  rw [decide_eq_true q, decide_eq_true q2]
  have main : ∀ (m i : Nat), m + i = (sL s).length → ((sL s).take i).all small = true → f_ref04_Name.l0 (m + 1) s (i : Int) w (fun (w1 : World) => ∀ _ : Fr, (Ending.returned (.bool true)) = .returned (.bool (true && true && (sL s).all small)) ∧ w1 = w) (fun (b2 : Bool) (w3 : World) => ∀ _ : Fr, (Ending.returned (.bool b2)) = .returned (.bool (true && true && (sL s).all small)) ∧ w3 = w) := by
    intro m
    induction m with
    | zero =>
      intro i hi ha
      unfold f_ref04_Name.l0
      rw [List.take_of_length_le (by omega)] at ha
      exact sel_f (by rw [sL_size]; simp; omega) fun _ => ⟨by rw [ha]; rfl, rfl⟩
    | succ m ih =>
      intro i hi ha
      have hlt : i < (sL s).length := by omega
      have hc : s.get! i = (sL s)[i] := by rw [sL_get, List.getD_eq_getElem?_getD, List.getElem?_eq_getElem hlt]; rfl
      have hno : small (sL s)[i] = false → (sL s).all small = false := fun e => by
        cases h : (sL s).all small with
        | false => rfl
        | true =>
          have := List.all_eq_true.1 h _ (List.getElem_mem hlt)
          rw [e] at this; cases this
      unfold f_ref04_Name.l0
      refine sel_t (by rw [sL_size]; simp; omega) (req_intro (by rw [sL_size]; simp; omega) ?_)
      rw [Int.toNat_natCast, hc]
      by_cases c1 : (sL s)[i].toNat < 97
      · exact sel_t (by simp; omega) fun _ => ⟨by rw [hno (by unfold small; rw [decide_eq_false (by omega)]; rfl)]; rfl, rfl⟩
      refine sel_f (by simp; omega) (req_intro (by rw [sL_size]; simp; omega) ?_)
      by_cases c2 : 122 < (sL s)[i].toNat
      · exact sel_t (by simp; omega) fun _ => ⟨by rw [hno (by unfold small; rw [decide_eq_false (p := (sL s)[i].toNat ≤ 122) (by omega), Bool.and_false])]; rfl, rfl⟩
      refine sel_f (by simp; omega) ?_
      rw [show IntKind.i64.wrap ((i : Int) + 1) = ((i + 1 : Nat) : Int) by rw [w64_in (by omega)]; omega]
      refine ih (i + 1) (by omega) ?_
      rw [List.take_succ_eq_append_getElem hlt, List.all_append, ha]
      simp [small]
      omega
  exact main (sL s).length 0 (by omega) rfl
end
end Go.Proofs.YtakgoekfnhkgaaaDoor.Rd
