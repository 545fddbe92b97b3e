/- keys: the keys of elements and properties. Conditions: none. -/
import Derived.Lib.AppendStr
import Derived.Lib.ConvBytes
import Derived.Test.YtakgoekfnhkgaaaDoorKeA
import Derived.Test.YtakgoekfnhkgaaaDoorRecR
namespace Go.Proofs.YtakgoekfnhkgaaaDoor.Rd
open Go.Dn Go.RowKit
set_option linter.unusedVariables false
set_option linter.unusedSimpArgs false
set_option maxRecDepth 100000
abbrev TU8 : TypeId := 5
abbrev XF : Nat → Prop := fun _ => False
theorem RBk {S : Nat → Prop} {w w' : World} {A : Option Addr} {l : List UInt8} (h : Go.Dn.RB w A l) (k : Keeps S w w') (hA : ∀ a, A = some a → ¬ S a.block) : Go.Dn.RB w' A l := fun i hi => by
  obtain ⟨a, ha, hc⟩ := h i hi
  exact ⟨a, ha, k.cell hc (by rw [Go.Dn.add_block]; exact hA a ha)⟩
theorem bel_of {a b : World} (g : Keeps XF a b) : Below a.heap.size a b := g.below (Nat.le_refl _) fun _ _ h => h
def slF (l : List UInt8) (v : Value) (w : World) : Prop := ∃ A c, v = .slice A l.length c ∧ Go.Dn.RB w A l
theorem slF.keep {l : List UInt8} {v : Value} {a b : World} (h : slF l v a) (g : Keeps XF a b) : slF l v b := by
  obtain ⟨A, c, e, r⟩ := h
  exact ⟨A, c, e, RBk r g fun _ _ h => h⟩
theorem slF.arg {l : List UInt8} {A : Option Addr} {n c : Nat} {w : World} (h : slF l (.slice A n c) w) : n = l.length ∧ Go.Dn.RB w A l := by
  obtain ⟨A', c', e, r⟩ := h
  injection e with e1 e2 e3
  subst e1; subst e2
  exact ⟨rfl, r⟩
def slO (B : Nat) (l : List UInt8) (v : Value) (w : World) : Prop := ∃ A c, v = .slice A l.length c ∧ OwnB w B TU8 A c l
theorem slO.keep {B : Nat} {l : List UInt8} {v : Value} {a b : World} (h : slO B l v a) (g : Keeps XF a b) : slO B l v b := by
  obtain ⟨A, c, e, r⟩ := h
  exact ⟨A, c, e, r.keep (bel_of g)⟩
theorem slO.arg {B : Nat} {l : List UInt8} {A : Option Addr} {n c : Nat} {w : World} (h : slO B l (.slice A n c) w) : n = l.length ∧ OwnB w B TU8 A c l := by
  obtain ⟨A', c', e, r⟩ := h
  injection e with e1 e2 e3
  subst e1; subst e2; subst e3
  exact ⟨rfl, r⟩
theorem slO.toF {B : Nat} {l : List UInt8} {v : Value} {w : World} (h : slO B l v w) : slF l v w := by
  obtain ⟨A, c, e, r⟩ := h
  exact ⟨A, c, e, r.reads⟩
/-- a slice that is full -/
def slU (l : List UInt8) (v : Value) (w : World) : Prop := ∃ a, v = .slice (some a) l.length l.length ∧ Go.Dn.RB w (some a) l
theorem slU.keep {l : List UInt8} {v : Value} {a b : World} (h : slU l v a) (g : Keeps XF a b) : slU l v b := by
  obtain ⟨A, e, r⟩ := h
  exact ⟨A, e, RBk r g fun _ _ h => h⟩
section
variable {w w' : World} {B : Nat}
/-- bytes behind a slice that is full: a new row -/
theorem app_full {a a2 : Addr} {m c2 : Nat} {l l2 : List UInt8} (hr : Go.Dn.RB w (some a) l) (hr2 : Go.Dn.RB w (some a2) l2) (hm : m = l2.length) (h0 : 0 < l2.length) (hlen : l.length + l2.length ≤ 140737488355328) {ty : TypeId} {K : Value → World → Prop}
    (hK : ∀ A' c' w', OwnB w' w.heap.size TU8 A' c' (l ++ l2) → Below w.heap.size w w' → K (.slice A' (l ++ l2).length c') w') :
    Runs Tryd.prog (Builtin.append_ #[24, 24] ty #[.slice (some a) l.length l.length, .slice (some a2) m c2]) w K := by
  subst hm
  obtain ⟨i, hi, hz, hs, hby⟩ := TBy.info
  have cells : ∀ {a : Addr} {l : List UInt8}, Go.Dn.RB w (some a) l → ∀ j u, (l.map byteV)[j]? = some u → w.cell? (a.add j) = some u := fun {a l} hr j u hj => by
    rw [List.getElem?_map] at hj
    cases hx : l[j]? with
    | none => rw [hx] at hj; cases hj
    | some b =>
      rw [hx] at hj; injection hj with hj; subst hj
      obtain ⟨hjl, e⟩ := List.getElem?_eq_some_iff.1 hx
      obtain ⟨a', ha, hc⟩ := hr j hjl
      injection ha with ha; subst ha
      rw [hc, e]
  have hrun := run_append_grow (P := Tryd.prog) w 24 ty TU8 i (.int .u8 0) TBy.und hi hz a l.length l.length (l.map byteV) (by rw [hs, List.length_map, Nat.mul_one]) (cells hr) a2 l2.length c2 (l2.map byteV) (by rw [hs, List.length_map, Nat.mul_one]) (cells hr2) (by omega) (by omega) (by rw [hby]; exact growslice_fits (by omega) (by omega))
  have hll : (l ++ l2).length = l.length + l2.length := by simp
  refine runs_of hrun ?_
  have hge := grownCap_ge w (l.length + l2.length) l.length TU8
  have hcm : grownCap w (l.length + l2.length) l.length TU8 ≤ maxLen := grownCap_le_maxLen w (l.length + l2.length) l.length TU8 (by unfold maxLen; omega)
  have hf := hK (some ⟨w.heap.size, 0, none⟩) (grownCap w (l.length + l2.length) l.length TU8) (w.drew.alloc (.cells ((l.map byteV).toArray ++ (l2.map byteV).toArray ++ Builtin.zeroCells (Value.int .u8 0).cells (grownCap w (l.length + l2.length) l.length TU8 - (l.length + l2.length))) TU8)) ?_ ((Below.refl w.heap.size w).drew.alloc (Nat.le_refl _) _)
  · rw [hll] at hf; exact hf
  unfold OwnB
  rw [hll]
  refine ⟨by rw [List.length_map, hll, Nat.mul_one], .inr ⟨w.heap.size, _, _, rfl, Nat.le_refl _, heap_alloc_new w.drew _, hge, hcm, ?_, ?_⟩⟩
  · simp only [Array.size_append, List.size_toArray, size_zeroCells, List.length_map]
    show l.length + l2.length + (grownCap w (l.length + l2.length) l.length TU8 - (l.length + l2.length)) * 1 = _ * 1
    omega
  · simp only [Array.toList_append, List.append_assoc]
    rw [← List.append_assoc, ← List.map_append]
    have e : (l.length + l2.length) * 1 = ((l ++ l2).map byteV).length := by rw [List.length_map, hll, Nat.mul_one]
    rw [e]
    exact List.take_left
theorem strCells_eq (s : ByteArray) : Lib.strCells s = (sL s).map byteV := rfl
theorem app_str {A : Option Addr} {n c : Nat} {l : List UInt8} {s : ByteArray} (ho : OwnB w B TU8 A c l) (hn : n = l.length) (hB : B ≤ w.heap.size) (hlen : l.length + (sL s).length ≤ 140737488355328) {ty : TypeId} {K : Value → World → Prop}
    (hK : ∀ A' c' w', OwnB w' B TU8 A' c' (l ++ sL s) → Below B w w' → K (.slice A' (l ++ sL s).length c') w') :
    Runs Tryd.prog (Builtin.append_ #[24, 9] ty #[.slice A n c, .string s]) w K := by
  subst hn
  obtain ⟨i, hi, hz, hs, hb⟩ := TBy.info
  obtain ⟨v', w', hr, ho', hg, _⟩ := Lib.run_append_own_string (P := Tryd.prog) w B 24 9 ty TU8 i TBy.und (by kernel_rfl) hi hz hs hb (.slice A l.length c) l.length (l.map byteV) ho s (by unfold maxLen; rw [sL_size]; omega) (by rw [sL_size]; omega) hB
  have he : l.map byteV ++ Lib.strCells s = (l ++ sL s).map byteV := by rw [strCells_eq, List.map_append]
  have hl : l.length + s.size = (l ++ sL s).length := by rw [sL_size, List.length_append]
  rw [he, hl] at ho'
  have hbel : Below B w w' := (Below.refl B w).grown hg hB fun k hk => by
    obtain ⟨a, ha, e⟩ := ob_own hk.symm
    have := (ho.block a ha).1; omega
  obtain ⟨A', c', rfl⟩ : ∃ A' c', v' = .slice A' (l ++ sL s).length c' := by
    rcases ho'.2 with ⟨h1, h2⟩ | ⟨g, cap, cur, hv, _⟩
    · refine ⟨none, 0, ?_⟩
      rw [h1]
      rw [h2]
    · exact ⟨_, _, hv⟩
  exact runs_of hr (hK A' c' w' ho' hbel)
theorem conv_sb {s : ByteArray} (hl : (sL s).length ≤ 140737488355328) {K : Value → World → Prop} (hK : ∀ A c w', Go.Dn.RB w' A (sL s) → Below w.heap.size w w' → K (.slice A (sL s).length c) w') :
    Runs Tryd.prog (Go.convert 9 24 (.string s)) w K := by
  have hsz : s.size = (sL s).length := sL_size s
  have hr := run_bytes_of_string (P := Tryd.prog) w 9 24 TU8 s (by kernel_rfl) (by kernel_rfl) (by kernel_rfl)
  rw [hsz] at hr
  refine runs_of hr (hK _ _ _ ?_ ((Below.refl w.heap.size w).drew.alloc (Nat.le_refl _) _))
  intro i hi
  refine ⟨_, rfl, ?_⟩
  rw [add_mk, Nat.zero_add]
  show (w.drew.alloc _).cell? ⟨w.drew.heap.size, i, none⟩ = _
  rw [World.cell?_alloc_mark]
  unfold bytesRow
  rw [Array.getElem?_append_left (by rw [Array.size_map]; exact hi), Array.getElem?_map]
  have hi' : i < s.data.size := hi
  rw [Array.getElem?_eq_getElem hi']
  rfl
/-! ### invariants of regions of open order: K is the last of all -/
structure IG (B : Nat) (w2 : World) (F : Nat → Value → World → Prop) (K : Nat) (E : List Nat) (ls : Nat → Bool) (vv : Nat → Value) (w : World) : Prop where
  b : Below B w2 w
  z : B ≤ w.heap.size
  d : ls K = true → ∀ i ∈ E, ls i = true
  f : ls K = false → ∀ i, ls i = true → F i (vv i) w
  k : ls K = true → F K (vv K) w
theorem upB_ne {ls : Nat → Bool} {i k : Nat} (h : k ≠ i) : upB ls i k = ls k := by unfold upB; rw [nbeq_false h]; rfl
theorem upB_eq {ls : Nat → Bool} {i : Nat} : upB ls i i = true := by unfold upB; rw [Nat.beq_refl]; rfl
theorem upV_ne {vv : Nat → Value} {i k : Nat} {v : Value} (h : k ≠ i) : upV vv i v k = vv k := by unfold upV; rw [nbeq_false h]; rfl
theorem upV_eq {vv : Nat → Value} {i : Nat} {v : Value} : upV vv i v i = v := by unfold upV; rw [Nat.beq_refl]; rfl
section
variable {w2 : World} {F : Nat → Value → World → Prop} {K : Nat} {E : List Nat} {ls : Nat → Bool} {vv : Nat → Value} {i : Nat} {v : Value}
theorem IG.init (hB : B ≤ w2.heap.size) : IG B w2 F K E (fun _ => false) (fun _ => undef) w2 := ⟨Below.refl _ _, hB, fun h => by (cases h), fun _ i h => by (cases h), fun h => by (cases h)⟩
theorem IG.no (h : IG B w2 F K E ls vv w) (hi : ls i = false) (hE : i ∈ E) : ls K = false := by
  cases hk : ls K with
  | false => rfl
  | true => rw [h.d hk i hE] at hi; cases hi
theorem IG.at (h : IG B w2 F K E ls vv w) (hi : ls i = false) (hE : i ∈ E) {j : Nat} (hj : ls j = true) : F j (vv j) w := h.f (h.no hi hE) j hj
theorem IG.step (h : IG B w2 F K E ls vv w) (hi : ls i = false) (hE : i ∈ E) (hK : i ≠ K) (g : Below w.heap.size w w') (st : ∀ j v, F j v w → F j v w') (hv : F i v w') : IG B w2 F K E (upB ls i) (upV vv i v) w' := by
  have hk := h.no hi hE
  have hk' : upB ls i K = false := by rw [upB_ne (fun e => hK e.symm)]; exact hk
  refine ⟨h.b.trans (g.mono h.z), Nat.le_trans h.z g.size, fun e => by (rw [hk'] at e; cases e), fun _ j hj => ?_, fun e => by (rw [hk'] at e; cases e)⟩
  by_cases e : j = i
  · subst e; rw [upV_eq]; exact hv
  · rw [upB_ne e] at hj
    rw [upV_ne e]; exact st _ _ (h.f hk j hj)
theorem IG.last (h : IG B w2 F K E ls vv w) (hall : ∀ j ∈ E, j ≠ K → ls j = true) (g : Below B w w') (hz : w.heap.size ≤ w'.heap.size) (hv : F K v w') : IG B w2 F K E (upB ls K) (upV vv K v) w' := by
  refine ⟨h.b.trans g, Nat.le_trans h.z hz, fun _ j hj => ?_, fun e => by (rw [upB_eq] at e; cases e), fun _ => by (rw [upV_eq]; exact hv)⟩
  by_cases e : j = K
  · subst e; exact upB_eq
  · rw [upB_ne e]; exact hall j hj e
end
/-! ### elements -/
def cls (e : Bool) : UInt8 := if e then 1 else 0
def be4 (n : Nat) : List UInt8 := [UInt8.ofNat (n / 16777216), UInt8.ofNat (n / 65536), UInt8.ofNat (n / 256), UInt8.ofNat n]
def badId (x : Int) : Prop := x < 1 ∨ 2147483647 < x
instance (x : Int) : Decidable (badId x) := inferInstanceAs (Decidable (_ ∨ _))
def elemL (e : Bool) (x : Int) : List UInt8 × Int := if badId x then ([], 1) else ((1 + cls e) :: be4 x.toNat, 0)
def propL (e : Bool) (x : Int) (nm : List UInt8) : List UInt8 × Int := if badId x then ([], 1) else if isName nm = true then (3 :: cls e :: be4 x.toNat ++ nm, 0) else ([], 54)
theorem badId_ok {x : Int} : Calls Tryd.prog 31 #[.int .i64 x] w fun e w' => e = .returned (.bool (decide (badId x))) ∧ w' = w := by
  apply f_keys_badId.ok
  unfold f_keys_badId.wp badId
  by_cases h : x < 1
  · exact sel_t (by simpa using h) ⟨by simp [h], rfl⟩
  · exact sel_f (by simpa using h) ⟨by simp [h], rfl⟩
abbrev TRf : TypeId := 23
def rfC (e : Bool) (x : Int) : Array Value := #[.bool e, .int .i64 x]
theorem hb_ldB0 {b : Nat} {cs : Array Value} {t : TypeId} (h : HB w b cs t) {x : Bool} (hj : cs[0]? = some (.bool x)) {K : Bool → Prop} (hk : K x) : ldB w (⟨b, 0, none⟩ : Addr) K := ⟨_, (h.cell 0).trans hj, hk⟩
theorem class_ok {e : Bool} {x : Int} : Calls Tryd.prog 32 #[.agg #[.bool e, .int .i64 x]] w fun r w' => r = .returned (.int .u8 ((cls e).toNat : Int)) ∧ Below w.heap.size w w' := by
  apply f_keys_class.ok
  unfold f_keys_class.wp
  refine al_new fun w1 b e1 s1 h1 g1 => hb_ldB0 h1 rfl ?_
  cases e
  · exact sel_f rfl ⟨rfl, g1⟩
  · exact sel_t rfl ⟨rfl, g1⟩
theorem Rclass_ok {e : Bool} {x : Int} : Calls Tryd.prog 35 #[.agg #[.bool e, .int .i64 x]] w fun r w' => r = .returned (.int .u8 ((cls e).toNat : Int)) ∧ Below w.heap.size w w' := by
  apply f_ref04_class.ok
  unfold f_ref04_class.wp
  refine al_new fun w1 b e1 s1 h1 g1 => hb_ldB0 h1 rfl ?_
  cases e
  · exact sel_f rfl ⟨rfl, g1⟩
  · exact sel_t rfl ⟨rfl, g1⟩
theorem lit_ok {l : List UInt8} {cs : Array Value} (hcs : cs.toList = l.map byteV) (hl : l.length ≤ 140737488355328) {K : Nat → World → Prop} (hK : ∀ b w', b = w.heap.size → OwnB w' w.heap.size TU8 (some ⟨b, 0, none⟩) l.length l → Below w.heap.size w w' → K b w') : alW w (.cells cs TU8) K :=
  alW_intro (hK _ _ rfl (OwnB.lit l hcs (Nat.le_refl _) hl) ((Below.refl _ _).alloc (Nat.le_refl _) _))
theorem fd (x k : Nat) : IntKind.u8.wrap ((x : Int).fdiv (k : Int)) = ((UInt8.ofNat (x / k)).toNat : Int) := by
  rw [u8w, UInt8.toNat_ofNat', Int.fdiv_eq_ediv_of_nonneg _ (Int.natCast_nonneg _)]
  omega
theorem four_ok (n : Nat) : Calls Tryd.prog 33 #[.int .i64 (n : Int)] w fun r w' => ∃ A c, r = .returned (.slice A (be4 n).length c) ∧ OwnB w' w.heap.size TU8 A c (be4 n) ∧ Below w.heap.size w w' := by
  apply f_keys_four.ok
  unfold f_keys_four.wp
  have e3 : IntKind.u8.wrap (n : Int) = ((UInt8.ofNat n).toNat : Int) := by rw [u8w, UInt8.toNat_ofNat']; omega
  have e0 := fd n 16777216
  have e1 := fd n 65536
  have e2 := fd n 256
  rw [show ((2 : Int) ^ 24) = ((16777216 : Nat) : Int) from rfl, show ((2 : Int) ^ 16) = ((65536 : Nat) : Int) from rfl, show ((2 : Int) ^ 8) = ((256 : Nat) : Int) from rfl, e0, e1, e2, e3]
  exact lit_ok (l := be4 n) rfl (by simp [be4]) fun b w' eb o g => ⟨_, _, rfl, o, g⟩
theorem Rfour_ok {n : Nat} (hn : n ≤ 2147483647) : Calls Tryd.prog 36 #[.int .i64 (n : Int)] w fun r w' => ∃ A c, r = .returned (.slice A (be4 n).length c) ∧ OwnB w' w.heap.size TU8 A c (be4 n) ∧ Below w.heap.size w w' := by
  apply f_ref04_four.ok
  unfold f_ref04_four.wp
  have td : ∀ k : Nat, 0 < k → IntKind.u8.wrap ((IntKind.i64.wrap ((n : Int).tdiv (k : Int))).tmod (256 : Int)) = ((UInt8.ofNat (n / k)).toNat : Int) := fun k hk => by
    have h1 : (n : Int).tdiv (k : Int) = ((n / k : Nat) : Int) := by rw [Int.tdiv_eq_ediv_of_nonneg (by omega)]; rfl
    have h2 : n / k ≤ n := Nat.div_le_self n k
    rw [h1]
    obtain ⟨m, hm⟩ : ∃ m, n / k = m := ⟨_, rfl⟩
    rw [hm] at h2 ⊢
    rw [w64_in (by omega), Int.tmod_eq_emod_of_nonneg (by omega), u8w, UInt8.toNat_ofNat']
    omega
  have e3 : IntKind.u8.wrap ((n : Int).tmod (256 : Int)) = ((UInt8.ofNat n).toNat : Int) := by rw [Int.tmod_eq_emod_of_nonneg (by omega), u8w, UInt8.toNat_ofNat']; omega
  have e0 := td 16777216 (by decide)
  have e1 := td 65536 (by decide)
  have e2 := td 256 (by decide)
  rw [show ((16777216 : Int)) = ((16777216 : Nat) : Int) from rfl, show ((65536 : Int)) = ((65536 : Nat) : Int) from rfl]
  rw [show ((256 : Nat) : Int) = (256 : Int) from rfl] at e2
  rw [e0, e1, e2, e3]
  exact lit_ok (l := be4 n) rfl (by simp [be4]) fun b w' eb o g => ⟨_, _, rfl, o, g⟩
theorem cls_one (e : Bool) : IntKind.u8.wrap (1 + ((cls e).toNat : Int)) = ((1 + cls e).toNat : Int) := by cases e <;> rfl
def FE (e : Bool) (x : Int) (B : Nat) : Nat → Value → World → Prop
  | 0, v, _ => v = .agg #[.bool e, .int .i64 x]
  | 1, v, _ => v = .int .u8 ((cls e).toNat : Int)
  | 3, v, w => slO B [1 + cls e] v w
  | 5, v, _ => v = .int .i64 x
  | 6, v, w => slF (be4 x.toNat) v w
  | 7, v, w => slO B ((1 + cls e) :: be4 x.toNat) v w
  | _, _, _ => True
theorem FE_keep {e : Bool} {x : Int} {a b : World} (g : Keeps XF a b) : ∀ (i : Nat) (v : Value), FE e x B i v a → FE e x B i v b
  | 0, _, h => h
  | 1, _, h => h
  | 2, _, _ => trivial
  | 3, _, h => slO.keep h g
  | 4, _, _ => trivial
  | 5, _, h => h
  | 6, _, h => slF.keep h g
  | 7, _, h => slO.keep h g
  | _ + 8, _, _ => trivial
theorem Elem_ok {e : Bool} {x : Int} : Calls Tryd.prog 8 #[.agg #[.bool e, .int .i64 x]] w fun r w' => ∃ A c, r = .returned (.tuple #[.slice A (elemL e x).1.length c, .int .i64 (elemL e x).2]) ∧ OwnB w' w.heap.size TU8 A c (elemL e x).1 ∧ Below w.heap.size w w' := by
  apply f_keys_Elem.ok
  unfold f_keys_Elem.wp
  refine al_new fun w1 b e1 s1 h1 g1 => hb_ldI h1 (j := 1) rfl (badId_ok.mono ?_)
  rintro _ w1 ⟨rfl, rfl⟩
  refine ⟨_, rfl, ?_⟩
  unfold elemL
  by_cases hb : badId x
  · rw [if_pos hb]
    exact sel_t (by simpa using hb) ⟨none, 0, rfl, World.ownsRow_nil _ _ _ _, g1⟩
  rw [if_neg hb]
  refine sel_f (by simpa using hb) (drW_intro ?_)
  have hx : 1 ≤ x ∧ x ≤ 2147483647 := by unfold badId at hb; omega
  obtain ⟨n, rfl⟩ : ∃ n : Nat, x = (n : Int) := ⟨x.toNat, by omega⟩
  have gd : Below w1.heap.size w1 w1.drew := (Below.refl _ _).drew
  have i2 : HB w1.drew b (rfC e n) TRf := HB.below h1 gd
  have g2 : Below w.heap.size w w1.drew := g1.trans (gd.mono g1.size)
  obtain ⟨w2, hw2⟩ : ∃ w2, w1.drew = w2 := ⟨_, rfl⟩
  rw [hw2] at i2 g2 ⊢
  have hbs : b < w2.heap.size := i2.lt
  obtain ⟨B, hB⟩ : ∃ B, w2.heap.size = B := ⟨_, rfl⟩
  have hE : ∀ {i}, i ∈ [0, 1, 3, 5, 6, 7] → i ∈ [0, 1, 3, 5, 6, 7] := fun h => h
  have bx : ∀ {a : World}, Below B w2 a → HB a b (rfC e n) TRf := fun g => i2.below (by rw [hB]; exact g)
  refine ⟨f_keys_Elem.h3_ok _, IG B w2 (FE e n B) 7 [0, 1, 3, 5, 6, 7], IG.init (by omega), ⟨?_, ?_, ?_, ?_, ?_, ?_, trivial⟩, ?_⟩
  · intro _ ls vv a hi hI
    exact hb_ldB0 (bx hI.b) rfl (hb_ldI (bx hI.b) (j := 1) rfl (hI.step hi (by decide) (by decide) (Below.refl _ _) (fun _ _ h => h) rfl))
  · intro _ ls vv a hi hI be0 xe0 ⟨d0, u0⟩
    have q := hI.at hi (by decide) d0
    rw [u0] at q
    have q : (Value.agg #[.bool be0, .int .i64 xe0]) = .agg #[.bool e, .int .i64 (n : Int)] := q
    injection q with q
    have q1 : be0 = e ∧ xe0 = (n : Int) := by simpa using q
    obtain ⟨rfl, rfl⟩ := q1
    refine class_ok.mono ?_
    rintro _ a' ⟨rfl, g⟩
    exact ⟨_, rfl, hI.step hi (by decide) (by decide) g (fun j v h => FE_keep (.of_below g) j v h) rfl⟩
  · intro _ ls vv a hi hI be0 xe0 _ xe1 ⟨d1, u1⟩
    have q := hI.at hi (by decide) d1
    rw [u1] at q
    have q : (Value.int .u8 xe1) = .int .u8 ((cls e).toNat : Int) := q
    injection q with _ q
    subst q
    rw [cls_one]
    refine lit_ok (l := [1 + cls e]) rfl (by simp) fun b' w' eb o g => hI.step hi (by decide) (by decide) g (fun j v h => FE_keep (.of_below g) j v h) ⟨_, _, rfl, OwnB.mono o hI.z⟩
  · intro _ ls vv a hi hI
    exact hb_ldI (bx hI.b) (j := 1) rfl (hI.step hi (by decide) (by decide) (Below.refl _ _) (fun _ _ h => h) rfl)
  · intro _ ls vv a hi hI be0 xe0 _ xe1 _ xe5 ⟨d5, u5⟩
    have q := hI.at hi (by decide) d5
    rw [u5] at q
    have q : (Value.int .i64 xe5) = .int .i64 (n : Int) := q
    injection q with _ q
    subst q
    refine (four_ok n).mono ?_
    rintro _ a' ⟨A, c, rfl, o, g⟩
    exact ⟨_, _, _, rfl, hI.step hi (by decide) (by decide) g (fun j v h => FE_keep (.of_below g) j v h) ⟨_, _, rfl, by rw [Int.toNat_natCast]; exact o.reads⟩⟩
  · intro _ ls vv a hi hI be0 xe0 ⟨d0, _⟩ xe1 ⟨d1, _⟩ A3 n3 c3 ⟨d3, u3⟩ xe5 ⟨d5, _⟩ A6 n6 c6 ⟨d6, u6⟩
    have q3 := hI.at hi (by decide) d3
    have q6 := hI.at hi (by decide) d6
    rw [u3] at q3
    rw [u6] at q6
    obtain ⟨rfl, o3⟩ := slO.arg (q3 : slO B [1 + cls e] _ a)
    obtain ⟨rfl, r6⟩ := slF.arg (q6 : slF (be4 (n : Int).toNat) _ a)
    rw [Int.toNat_natCast] at r6 ⊢
    refine app_runs TBy o3 rfl r6 rfl (fun h => by subst h; obtain ⟨a', ha, _⟩ := r6 0 (by simp [be4]); cases ha) hI.z (by simp [be4]) ?_
    intro A' c' a' o' g' _ _
    refine ⟨_, _, _, rfl, hI.last (fun j hj hk => ?_) g' ?_ ⟨_, _, rfl, ?_⟩⟩
    · simp only [List.mem_cons, List.not_mem_nil, or_false] at hj
      rcases hj with rfl | rfl | rfl | rfl | rfl | rfl
      · exact d0
      · exact d1
      · exact d3
      · exact d5
      · exact d6
      · exact absurd rfl hk
    · exact g'.size
    · rw [Int.toNat_natCast]; exact o'
  intro ls vv a hI be0 xe0 _ xe1 _ A3 n3 c3 _ xe5 _ A6 n6 c6 _ A7 n7 c7 ⟨d7, u7⟩
  have q7 := hI.k d7
  rw [u7] at q7
  obtain ⟨rfl, o7⟩ := slO.arg (q7 : slO B ((1 + cls e) :: be4 (n : Int).toNat) _ a)
  exact ⟨_, _, rfl, OwnB.mono o7 (by have := g2.size; omega), g2.trans (hI.b.mono (by have := g2.size; omega))⟩
theorem RElem_ok {e : Bool} {x : Int} : Calls Tryd.prog 9 #[.agg #[.bool e, .int .i64 x]] w fun r w' => ∃ A c, r = .returned (.tuple #[.slice A (elemL e x).1.length c, .int .i64 (elemL e x).2]) ∧ OwnB w' w.heap.size TU8 A c (elemL e x).1 ∧ Below w.heap.size w w' := by
  apply f_ref04_Elem.ok
  unfold f_ref04_Elem.wp
  refine al_new fun w1 b e1 s1 h1 g1 => hb_ldI h1 (j := 1) rfl ?_
  unfold elemL
  by_cases q1 : x < 1
  · rw [if_pos (.inl q1)]
    exact sel_t (by simpa using q1) ⟨none, 0, rfl, World.ownsRow_nil _ _ _ _, g1⟩
  refine sel_f (by simpa using q1) (hb_ldI h1 (j := 1) rfl ?_)
  by_cases q2 : 2147483647 < x
  · rw [if_pos (.inr q2)]
    exact sel_t (by simpa using q2) ⟨none, 0, rfl, World.ownsRow_nil _ _ _ _, g1⟩
  rw [if_neg (by unfold badId; omega)]
  refine sel_f (by simpa using q2) (drW_intro ?_)
  obtain ⟨n, rfl⟩ : ∃ n : Nat, x = (n : Int) := ⟨x.toNat, by omega⟩
  have gd : Below w1.heap.size w1 w1.drew := (Below.refl _ _).drew
  have i2 : HB w1.drew b (rfC e n) TRf := HB.below h1 gd
  have g2 : Below w.heap.size w w1.drew := g1.trans (gd.mono g1.size)
  obtain ⟨w2, hw2⟩ : ∃ w2, w1.drew = w2 := ⟨_, rfl⟩
  rw [hw2] at i2 g2 ⊢
  have bx : ∀ {a : World}, Keeps XF w2 a → HB a b (rfC e n) TRf := fun g => i2.keeps g fun h => h
  have sz2 := g2.size
  refine ⟨f_ref04_Elem.h3_ok _, Keeps XF, FE e n w.heap.size, fun w => .refl _ _, fun a b c h k => h.trans k, fun i v a b _ g h => FE_keep g i v h, ⟨?_, ?_, ?_, ?_, ?_, ?_, trivial⟩, ?_⟩
  · intro _ a ga
    exact hb_ldB0 (bx ga) rfl (hb_ldI (bx ga) (j := 1) rfl ⟨.refl _ _, rfl⟩)
  · intro _ a ga be0 xe0 q
    have q : (Value.agg #[.bool be0, .int .i64 xe0]) = .agg #[.bool e, .int .i64 (n : Int)] := q
    injection q with q
    have q1 : be0 = e ∧ xe0 = (n : Int) := by simpa using q
    obtain ⟨rfl, rfl⟩ := q1
    refine Rclass_ok.mono ?_
    rintro _ a' ⟨rfl, g⟩
    exact ⟨_, rfl, .of_below g, rfl⟩
  · intro _ a ga be0 xe0 _ xe1 q
    have q : (Value.int .u8 xe1) = .int .u8 ((cls e).toNat : Int) := q
    injection q with _ q
    subst q
    rw [cls_one]
    have := ga.size
    exact lit_ok (l := [1 + cls e]) rfl (by simp) fun b' w' eb o g => ⟨.of_below g, ⟨_, _, rfl, OwnB.mono o (by omega)⟩⟩
  · intro _ a ga
    exact hb_ldI (bx ga) (j := 1) rfl ⟨.refl _ _, rfl⟩
  · intro _ a ga be0 xe0 _ xe1 _ xe5 q
    have q : (Value.int .i64 xe5) = .int .i64 (n : Int) := q
    injection q with _ q
    subst q
    refine (Rfour_ok (n := n) (by omega)).mono ?_
    rintro _ a' ⟨A, c, rfl, o, g⟩
    exact ⟨_, _, _, rfl, .of_below g, ⟨_, _, rfl, by rw [Int.toNat_natCast]; exact o.reads⟩⟩
  · intro _ a ga be0 xe0 _ xe1 _ A3 n3 c3 q3 xe5 _ A6 n6 c6 q6
    obtain ⟨rfl, o3⟩ := slO.arg (q3 : slO w.heap.size [1 + cls e] _ a)
    obtain ⟨rfl, r6⟩ := slF.arg (q6 : slF (be4 (n : Int).toNat) _ a)
    rw [Int.toNat_natCast] at r6 ⊢
    refine (Cat_ok o3.reads r6 rfl rfl (by simp [be4])).mono ?_
    rintro _ a' ⟨A7, c7, rfl, o7, g7⟩
    have := ga.size
    exact ⟨_, _, _, rfl, .of_below g7, ⟨_, _, rfl, by rw [Int.toNat_natCast]; exact OwnB.mono o7 (by omega)⟩⟩
  intro a ga be0 xe0 _ xe1 _ A3 n3 c3 _ xe5 _ A6 n6 c6 _ A7 n7 c7 q7
  obtain ⟨rfl, o7⟩ := slO.arg (q7 : slO w.heap.size ((1 + cls e) :: be4 (n : Int).toNat) _ a)
  exact ⟨_, _, rfl, o7, g2.trans ((bel_of ga).mono sz2)⟩
/-! ### properties -/
def FP (e : Bool) (x : Int) (nm : List UInt8) (B K : Nat) (i : Nat) (v : Value) (w : World) : Prop :=
  if i = 0 then v = .agg #[.bool e, .int .i64 x] else if i = 1 then v = .int .u8 ((cls e).toNat : Int) else if i = 2 then slU [3, cls e] v w else if i = 4 then v = .int .i64 x else if i = 5 then slF (be4 x.toNat) v w
  else if i = 6 then slO B (3 :: cls e :: be4 x.toNat) v w else if i = K then slO B (3 :: cls e :: be4 x.toNat ++ nm) v w else if i = 8 then slF nm v w else True
theorem FP_keep {e : Bool} {x : Int} {nm : List UInt8} {K : Nat} {a b : World} (g : Keeps XF a b) (i : Nat) (v : Value) (h : FP e x nm B K i v a) : FP e x nm B K i v b := by
  unfold FP at h ⊢
  by_cases q0 : i = 0
  · rw [if_pos q0] at h ⊢; exact h
  rw [if_neg q0] at h ⊢
  by_cases q1 : i = 1
  · rw [if_pos q1] at h ⊢; exact h
  rw [if_neg q1] at h ⊢
  by_cases q2 : i = 2
  · rw [if_pos q2] at h ⊢; exact slU.keep h g
  rw [if_neg q2] at h ⊢
  by_cases q4 : i = 4
  · rw [if_pos q4] at h ⊢; exact h
  rw [if_neg q4] at h ⊢
  by_cases q5 : i = 5
  · rw [if_pos q5] at h ⊢; exact slF.keep h g
  rw [if_neg q5] at h ⊢
  by_cases q6 : i = 6
  · rw [if_pos q6] at h ⊢; exact slO.keep h g
  rw [if_neg q6] at h ⊢
  by_cases q7 : i = K
  · rw [if_pos q7] at h ⊢; exact slO.keep h g
  rw [if_neg q7] at h ⊢
  by_cases q8 : i = 8
  · rw [if_pos q8] at h ⊢; exact slF.keep h g
  rw [if_neg q8] at h ⊢
  exact h
theorem Prop_ok {e : Bool} {x : Int} {s : ByteArray} (hl : (sL s).length ≤ 140737488355000) : Calls Tryd.prog 10 #[.agg #[.bool e, .int .i64 x], .string s] w fun r w' => ∃ A c, r = .returned (.tuple #[.slice A (propL e x (sL s)).1.length c, .int .i64 (propL e x (sL s)).2]) ∧ OwnB w' w.heap.size TU8 A c (propL e x (sL s)).1 ∧ Below w.heap.size w w' := by
  apply f_keys_Prop.ok
  unfold f_keys_Prop.wp
  refine al_new fun w1 b e1 s1 h1 g1 => hb_ldI h1 (j := 1) rfl (badId_ok.mono ?_)
  rintro _ w1 ⟨rfl, rfl⟩
  refine ⟨_, rfl, ?_⟩
  unfold propL
  by_cases hb : badId x
  · rw [if_pos hb]
    exact sel_t (by simpa using hb) ⟨none, 0, rfl, World.ownsRow_nil _ _ _ _, g1⟩
  rw [if_neg hb]
  refine sel_f (by simpa using hb) ((Name_ok (by omega)).mono ?_)
  rintro _ w1' ⟨rfl, gn⟩
  refine ⟨_, rfl, ?_⟩
  have g1' := g1.trans (gn.mono g1.size)
  by_cases hnm : isName (sL s) = true
  case neg =>
    rw [if_neg hnm]
    exact sel_t (by simpa using hnm) ⟨none, 0, rfl, World.ownsRow_nil _ _ _ _, g1'⟩
  rw [if_pos hnm]
  refine sel_f (by simp [hnm]) (drW_intro ?_)
  have hx : 1 ≤ x ∧ x ≤ 2147483647 := by unfold badId at hb; omega
  obtain ⟨n, rfl⟩ : ∃ n : Nat, x = (n : Int) := ⟨x.toNat, by omega⟩
  have gd : Below w1'.heap.size w1' w1'.drew := (Below.refl _ _).drew
  have i2 : HB w1'.drew b (rfC e n) TRf := HB.below (HB.below h1 gn) gd
  have g2 : Below w.heap.size w w1'.drew := g1'.trans (gd.mono g1'.size)
  obtain ⟨w2, hw2⟩ : ∃ w2, w1'.drew = w2 := ⟨_, rfl⟩
  rw [hw2] at i2 g2 ⊢
  have hbs : b < w2.heap.size := i2.lt
  obtain ⟨B, hB⟩ : ∃ B, w2.heap.size = B := ⟨_, rfl⟩
  have bx : ∀ {a : World}, Below B w2 a → HB a b (rfC e n) TRf := fun g => i2.below (by rw [hB]; exact g)
  refine ⟨f_keys_Prop.h5_ok _ _, IG B w2 (FP e n (sL s) B 8) 8 [0, 1, 2, 4, 5, 6, 8], IG.init (by omega), ⟨?_, ?_, ?_, ?_, ?_, ?_, ?_, trivial⟩, ?_⟩
  · intro _ ls vv a hi hI
    exact hb_ldB0 (bx hI.b) rfl (hb_ldI (bx hI.b) (j := 1) rfl (hI.step hi (by decide) (by decide) (Below.refl _ _) (fun _ _ h => h) rfl))
  · intro _ ls vv a hi hI be0 xe0 ⟨d0, u0⟩
    have q := hI.at hi (by decide) d0
    rw [u0] at q
    have q : (Value.agg #[.bool be0, .int .i64 xe0]) = .agg #[.bool e, .int .i64 (n : Int)] := q
    injection q with q
    have q1 : be0 = e ∧ xe0 = (n : Int) := by simpa using q
    obtain ⟨rfl, rfl⟩ := q1
    refine class_ok.mono ?_
    rintro _ a' ⟨rfl, g⟩
    exact ⟨_, rfl, hI.step hi (by decide) (by decide) g (fun j v h => FP_keep (.of_below g) j v h) rfl⟩
  · intro _ ls vv a hi hI be0 xe0 _ xe1 ⟨d1, u1⟩
    have q := hI.at hi (by decide) d1
    rw [u1] at q
    have q : (Value.int .u8 xe1) = .int .u8 ((cls e).toNat : Int) := q
    injection q with _ q
    subst q
    refine lit_ok (l := [3, cls e]) rfl (by simp) fun b' w' eb o g => hI.step hi (by decide) (by decide) g (fun j v h => FP_keep (.of_below g) j v h) ⟨_, rfl, o.reads⟩
  · intro _ ls vv a hi hI
    exact hb_ldI (bx hI.b) (j := 1) rfl (hI.step hi (by decide) (by decide) (Below.refl _ _) (fun _ _ h => h) rfl)
  · intro _ ls vv a hi hI be0 xe0 _ xe1 _ xe4 ⟨d4, u4⟩
    have q := hI.at hi (by decide) d4
    rw [u4] at q
    have q : (Value.int .i64 xe4) = .int .i64 (n : Int) := q
    injection q with _ q
    subst q
    refine (four_ok n).mono ?_
    rintro _ a' ⟨A, c, rfl, o, g⟩
    exact ⟨_, _, _, rfl, hI.step hi (by decide) (by decide) g (fun j v h => FP_keep (.of_below g) j v h) ⟨_, _, rfl, by rw [Int.toNat_natCast]; exact o.reads⟩⟩
  · intro _ ls vv a hi hI be0 xe0 ⟨d0, _⟩ xe1 ⟨d1, _⟩ A2 n2 c2 ⟨d2, u2⟩ xe4 ⟨d4, _⟩ A5 n5 c5 ⟨d5, u5⟩
    have q2 := hI.at hi (by decide) d2
    have q5 := hI.at hi (by decide) d5
    rw [u2] at q2
    rw [u5] at q5
    obtain ⟨a2, e2, r2⟩ : slU [3, cls e] _ a := q2
    injection e2 with e2 e3 e4
    subst e2; subst e3; subst e4
    obtain ⟨rfl, r5⟩ := slF.arg (q5 : slF (be4 (n : Int).toNat) _ a)
    rw [Int.toNat_natCast] at r5 ⊢
    obtain ⟨a5, ea5, _⟩ := r5 0 (by simp [be4])
    subst ea5
    refine app_full r2 r5 rfl (by simp [be4]) (by simp [be4]) fun A' c' a' o' g' => ⟨_, _, _, rfl, hI.step hi (by decide) (by decide) g' (fun j v h => FP_keep (.of_below g') j v h) ⟨_, _, rfl, ?_⟩⟩
    rw [Int.toNat_natCast]; exact OwnB.mono o' hI.z
  · intro _ ls vv a hi hI be0 xe0 ⟨d0, _⟩ xe1 ⟨d1, _⟩ A2 n2 c2 ⟨d2, _⟩ xe4 ⟨d4, _⟩ A5 n5 c5 ⟨d5, _⟩ A6 n6 c6 ⟨d6, u6⟩
    have q6 := hI.at hi (by decide) d6
    rw [u6] at q6
    obtain ⟨rfl, o6⟩ := slO.arg (q6 : slO B (3 :: cls e :: be4 (n : Int).toNat) _ a)
    refine app_str o6 rfl hI.z (by simp [be4]; omega) fun A' c' a' o' g' => ⟨_, _, _, rfl, hI.last (fun j hj hk => ?_) g' g'.size ⟨_, _, rfl, o'⟩⟩
    simp only [List.mem_cons, List.not_mem_nil, or_false] at hj
    rcases hj with rfl | rfl | rfl | rfl | rfl | rfl | rfl
    · exact d0
    · exact d1
    · exact d2
    · exact d4
    · exact d5
    · exact d6
    · exact absurd rfl hk
  intro ls vv a hI be0 xe0 _ xe1 _ A2 n2 c2 _ xe4 _ A5 n5 c5 _ A6 n6 c6 _ A8 n8 c8 ⟨d8, u8⟩
  have q8 := hI.k d8
  rw [u8] at q8
  obtain ⟨rfl, o8⟩ := slO.arg (q8 : slO B (3 :: cls e :: be4 (n : Int).toNat ++ sL s) _ a)
  exact ⟨_, _, rfl, OwnB.mono o8 (by have := g2.size; omega), g2.trans (hI.b.mono (by have := g2.size; omega))⟩
theorem RProp_ok {e : Bool} {x : Int} {s : ByteArray} (hl : (sL s).length ≤ 140737488355000) : Calls Tryd.prog 11 #[.agg #[.bool e, .int .i64 x], .string s] w fun r w' => ∃ A c, r = .returned (.tuple #[.slice A (propL e x (sL s)).1.length c, .int .i64 (propL e x (sL s)).2]) ∧ OwnB w' w.heap.size TU8 A c (propL e x (sL s)).1 ∧ Below w.heap.size w w' := by
  apply f_ref04_Prop.ok
  unfold f_ref04_Prop.wp
  refine al_new fun w1 b e1 s1 h1 g1 => hb_ldI h1 (j := 1) rfl ?_
  unfold propL
  by_cases q1 : x < 1
  · rw [if_pos (.inl q1)]
    exact sel_t (by simpa using q1) ⟨none, 0, rfl, World.ownsRow_nil _ _ _ _, g1⟩
  refine sel_f (by simpa using q1) (hb_ldI h1 (j := 1) rfl ?_)
  by_cases q2 : 2147483647 < x
  · rw [if_pos (.inr q2)]
    exact sel_t (by simpa using q2) ⟨none, 0, rfl, World.ownsRow_nil _ _ _ _, g1⟩
  rw [if_neg (by unfold badId; omega)]
  refine sel_f (by simpa using q2) ((RName_ok (by omega)).mono ?_)
  rintro _ w1 ⟨rfl, rfl⟩
  refine ⟨_, rfl, ?_⟩
  by_cases hnm : isName (sL s) = true
  case neg =>
    rw [if_neg hnm]
    exact sel_t (by simpa using hnm) ⟨none, 0, rfl, World.ownsRow_nil _ _ _ _, g1⟩
  rw [if_pos hnm]
  refine sel_f (by simp [hnm]) (drW_intro ?_)
  obtain ⟨n, rfl⟩ : ∃ n : Nat, x = (n : Int) := ⟨x.toNat, by omega⟩
  have gd : Below w1.heap.size w1 w1.drew := (Below.refl _ _).drew
  have i2 : HB w1.drew b (rfC e n) TRf := HB.below h1 gd
  have g2 : Below w.heap.size w w1.drew := g1.trans (gd.mono g1.size)
  obtain ⟨w2, hw2⟩ : ∃ w2, w1.drew = w2 := ⟨_, rfl⟩
  rw [hw2] at i2 g2 ⊢
  have bx : ∀ {a : World}, Keeps XF w2 a → HB a b (rfC e n) TRf := fun g => i2.keeps g fun h => h
  have sz2 := g2.size
  refine ⟨f_ref04_Prop.h5_ok _ _, Keeps XF, FP e n (sL s) w.heap.size 9, fun w => .refl _ _, fun a b c h k => h.trans k, fun i v a b _ g h => FP_keep g i v h, ⟨?_, ?_, ?_, ?_, ?_, ?_, ?_, ?_, trivial⟩, ?_⟩
  · intro _ a ga
    exact hb_ldB0 (bx ga) rfl (hb_ldI (bx ga) (j := 1) rfl ⟨.refl _ _, rfl⟩)
  · intro _ a ga be0 xe0 q
    have q : (Value.agg #[.bool be0, .int .i64 xe0]) = .agg #[.bool e, .int .i64 (n : Int)] := q
    injection q with q
    have q1 : be0 = e ∧ xe0 = (n : Int) := by simpa using q
    obtain ⟨rfl, rfl⟩ := q1
    refine Rclass_ok.mono ?_
    rintro _ a' ⟨rfl, g⟩
    exact ⟨_, rfl, .of_below g, rfl⟩
  · intro _ a ga be0 xe0 _ xe1 q
    have q : (Value.int .u8 xe1) = .int .u8 ((cls e).toNat : Int) := q
    injection q with _ q
    subst q
    exact lit_ok (l := [3, cls e]) rfl (by simp) fun b' w' eb o g => ⟨.of_below g, ⟨_, rfl, o.reads⟩⟩
  · intro _ a ga
    exact hb_ldI (bx ga) (j := 1) rfl ⟨.refl _ _, rfl⟩
  · intro _ a ga be0 xe0 _ xe1 _ xe4 q
    have q : (Value.int .i64 xe4) = .int .i64 (n : Int) := q
    injection q with _ q
    subst q
    refine (Rfour_ok (n := n) (by omega)).mono ?_
    rintro _ a' ⟨A, c, rfl, o, g⟩
    exact ⟨_, _, _, rfl, .of_below g, ⟨_, _, rfl, by rw [Int.toNat_natCast]; exact o.reads⟩⟩
  · intro _ a ga be0 xe0 _ xe1 _ A2 n2 c2 q2 xe4 _ A5 n5 c5 q5
    obtain ⟨a2, e2, r2⟩ : slU [3, cls e] _ a := q2
    injection e2 with e2 e3 e4
    subst e2; subst e3; subst e4
    obtain ⟨rfl, r5⟩ := slF.arg (q5 : slF (be4 (n : Int).toNat) _ a)
    rw [Int.toNat_natCast] at r5 ⊢
    refine (Cat_ok r2 r5 rfl rfl (by simp [be4])).mono ?_
    rintro _ a' ⟨A6, c6, rfl, o6, g6⟩
    have := ga.size
    exact ⟨_, _, _, rfl, .of_below g6, ⟨_, _, rfl, by rw [Int.toNat_natCast]; exact OwnB.mono o6 (by omega)⟩⟩
  · intro _ a ga
    exact conv_sb (by omega) fun A c a' r g => ⟨_, _, _, rfl, .of_below g, ⟨_, _, rfl, r⟩⟩
  · intro _ a ga be0 xe0 _ xe1 _ A2 n2 c2 _ xe4 _ A5 n5 c5 _ A6 n6 c6 q6 A8 n8 c8 q8
    obtain ⟨rfl, o6⟩ := slO.arg (q6 : slO w.heap.size (3 :: cls e :: be4 (n : Int).toNat) _ a)
    obtain ⟨rfl, r8⟩ := slF.arg (q8 : slF (sL s) _ a)
    refine (Cat_ok o6.reads r8 rfl rfl (by simp [be4]; omega)).mono ?_
    rintro _ a' ⟨A9, c9, rfl, o9, g9⟩
    have := ga.size
    exact ⟨_, _, _, rfl, .of_below g9, ⟨_, _, rfl, OwnB.mono o9 (by omega)⟩⟩
  intro a ga be0 xe0 _ xe1 _ A2 n2 c2 _ xe4 _ A5 n5 c5 _ A6 n6 c6 _ A8 n8 c8 _ A9 n9 c9 q9
  obtain ⟨rfl, o9⟩ := slO.arg (q9 : slO w.heap.size (3 :: cls e :: be4 (n : Int).toNat ++ sL s) _ a)
  exact ⟨_, _, rfl, o9, g2.trans ((bel_of ga).mono sz2)⟩
end
end Go.Proofs.YtakgoekfnhkgaaaDoor.Rd
