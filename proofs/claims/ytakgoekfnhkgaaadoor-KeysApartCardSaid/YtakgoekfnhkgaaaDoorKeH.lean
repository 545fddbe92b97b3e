/- bytes.ReplaceAll of an escaped nought; keys.Split. The layings of the library's contracts are printed by wip/laytxt.py (function numbers are this seat's). Conditions: sizes below 2^23. -/
import Derived.Shelf.Bytes.SlCountWhole
import Derived.Test.YtakgoekfnhkgaaaDoorKeG
namespace Go.Proofs
open Go.RowKit Go.Shelf
namespace YtakgoekfnhkgaaaDoor.Rd
def indexA_ren : Go.Shelf.Ren := ⟨fun | 185 => 77 | 187 => 86 | 115 => 48 | 253 => 87 | 224 => 88 | 254 => 89 | 255 => 99 | 291 => 100 | n => n, fun | 37 => 24 | 3 => 3 | 4 => 4 | 0 => 0 | 5 => 5 | 46 => 92 | 9 => 9 | 146 => 127 | 51 => 126 | n => n, fun | 1 => 0 | n => n⟩
theorem indexA : Go.Proofs.Lays.n185 Tryd.prog indexA_ren where
  mixed := by kernel_rfl
  f115 := Tryd.func48.trans (congrArg some (by kernel_rfl))
  f185 := Tryd.func77.trans (congrArg some (by kernel_rfl))
  f187 := Tryd.func86.trans (congrArg some (by kernel_rfl))
  f224 := Tryd.func88.trans (congrArg some (by kernel_rfl))
  f253 := Tryd.func87.trans (congrArg some (by kernel_rfl))
  f254 := Tryd.func89.trans (congrArg some (by kernel_rfl))
  f255 := Tryd.func99.trans (congrArg some (by kernel_rfl))
  f291 := Tryd.func100.trans (congrArg some (by kernel_rfl))
  t0 := Tryd.underlying0
  a0 := Tryd.isAgg0
  z0 := Tryd.sizeOf0
  v0 := Tryd.zeroValue0
  t3 := Tryd.underlying3
  a3 := Tryd.isAgg3
  z3 := Tryd.sizeOf3
  v3 := Tryd.zeroValue3
  t4 := Tryd.underlying4
  a4 := Tryd.isAgg4
  z4 := Tryd.sizeOf4
  v4 := Tryd.zeroValue4
  t5 := Tryd.underlying5
  a5 := Tryd.isAgg5
  z5 := Tryd.sizeOf5
  v5 := Tryd.zeroValue5
  t9 := Tryd.underlying9
  a9 := Tryd.isAgg9
  z9 := Tryd.sizeOf9
  v9 := Tryd.zeroValue9
  t37 := Tryd.underlying24
  a37 := Tryd.isAgg24
  z37 := Tryd.sizeOf24
  v37 := Tryd.zeroValue24
  t46 := Tryd.underlying92
  a46 := Tryd.isAgg92
  z46 := Tryd.sizeOf92
  v46 := Tryd.zeroValue92
  t51 := Tryd.underlying126
  a51 := Tryd.isAgg126
  z51 := Tryd.sizeOf126
  v51 := Tryd.zeroValue126
  t146 := Tryd.underlying127
  a146 := Tryd.isAgg127
  z146 := Tryd.sizeOf127
  v146 := Tryd.zeroValue127
  g1 := by kernel_rfl
def countA_ren : Go.Shelf.Ren := ⟨fun | 13 => 76 | 24 => 84 | 25 => 85 | 12 => 77 | 31 => 98 | 19 => 86 | 20 => 48 | 21 => 87 | 22 => 88 | 23 => 89 | 29 => 99 | 30 => 100 | n => n, fun | 22 => 24 | 3 => 3 | 4 => 4 | 0 => 0 | 5 => 5 | 9 => 9 | 33 => 92 | 40 => 127 | 39 => 126 | n => n, fun | 0 => 0 | n => n⟩
theorem countA : Go.Proofs.SlLaysC.n13 Tryd.prog countA_ren where
  mixed := by kernel_rfl
  f12 := Tryd.func77.trans (congrArg some (by kernel_rfl))
  f13 := Tryd.func76.trans (congrArg some (by kernel_rfl))
  f19 := Tryd.func86.trans (congrArg some (by kernel_rfl))
  f20 := Tryd.func48.trans (congrArg some (by kernel_rfl))
  f21 := Tryd.func87.trans (congrArg some (by kernel_rfl))
  f22 := Tryd.func88.trans (congrArg some (by kernel_rfl))
  f23 := Tryd.func89.trans (congrArg some (by kernel_rfl))
  f25 := Tryd.func85.trans (congrArg some (by kernel_rfl))
  f29 := Tryd.func99.trans (congrArg some (by kernel_rfl))
  f30 := Tryd.func100.trans (congrArg some (by kernel_rfl))
  t0 := Tryd.underlying0
  a0 := Tryd.isAgg0
  z0 := Tryd.sizeOf0
  v0 := Tryd.zeroValue0
  t3 := Tryd.underlying3
  a3 := Tryd.isAgg3
  z3 := Tryd.sizeOf3
  v3 := Tryd.zeroValue3
  t4 := Tryd.underlying4
  a4 := Tryd.isAgg4
  z4 := Tryd.sizeOf4
  v4 := Tryd.zeroValue4
  t5 := Tryd.underlying5
  a5 := Tryd.isAgg5
  z5 := Tryd.sizeOf5
  v5 := Tryd.zeroValue5
  t9 := Tryd.underlying9
  a9 := Tryd.isAgg9
  z9 := Tryd.sizeOf9
  v9 := Tryd.zeroValue9
  t22 := Tryd.underlying24
  a22 := Tryd.isAgg24
  z22 := Tryd.sizeOf24
  v22 := Tryd.zeroValue24
  t33 := Tryd.underlying92
  a33 := Tryd.isAgg92
  z33 := Tryd.sizeOf92
  v33 := Tryd.zeroValue92
  t39 := Tryd.underlying126
  a39 := Tryd.isAgg126
  z39 := Tryd.sizeOf126
  v39 := Tryd.zeroValue126
  t40 := Tryd.underlying127
  a40 := Tryd.isAgg127
  z40 := Tryd.sizeOf127
  v40 := Tryd.zeroValue127
  g0 := by kernel_rfl
end YtakgoekfnhkgaaaDoor.Rd
end Go.Proofs
namespace Go.Proofs.YtakgoekfnhkgaaaDoor.Rd
open Go.Dn Go.RowKit Go.Lib
set_option linter.unusedVariables false
set_option linter.unusedSimpArgs false
set_option maxRecDepth 100000
/-- a variable of the library holds some number -/
def Mx (w : World) : Prop := ∃ m, w.cell? ⟨0, 0, none⟩ = some (.int .i64 m)
theorem Mx.lt {w : World} (h : Mx w) : 0 < w.heap.size := by
  obtain ⟨m, hm⟩ := h
  exact World.block_lt_of_cell? _ _ hm
theorem Mx.keeps {S : Nat → Prop} {w w' : World} (h : Mx w) (k : Keeps S w w') (hS : ¬ S 0) : Mx w' := by
  obtain ⟨m, hm⟩ := h
  exact ⟨m, k.cell hm hS⟩
theorem Mx.below {w w' : World} (h : Mx w) (k : Below w.heap.size w w') : Mx w' := h.keeps (S := fun _ => False) (.of_below k) id
theorem drewN_heap (w : World) (q : Nat) : (w.drewN q).heap = w.heap := rfl
theorem drewN_below (w : World) (q B : Nat) : Below B w (w.drewN q) := ⟨rfl, rfl, rfl, Nat.le_refl _, fun _ _ => rfl⟩
section
variable {w w0 : World} {A A0 A1 A2 : Option Addr} {c c0 c1 c2 : Nat} {l o : List UInt8}
theorem nums_len (l : List UInt8) : (nums l).length = l.length := by simp [nums]
theorem nums_in (l : List UInt8) : ∀ x ∈ nums l, 0 ≤ x ∧ x < 256 := fun x hx => by
  obtain ⟨b, _, rfl⟩ := List.mem_map.1 hx
  have := b.toNat_lt
  omega
theorem rb_nums {a : Addr} (hr : Go.Dn.RB w (some a) l) : ∀ i, i < l.length → w.cell? (a.add i) = some (.int .u8 ((nums l).getD i 0)) := fun i hi => by
  obtain ⟨a', ha, hc⟩ := hr i hi
  injection ha with ha; subst ha
  rw [hc, nums_getD l i hi]; rfl
theorem rb_some (hr : Go.Dn.RB w A l) (h : 0 < l.length) : ∃ a, A = some a := by
  obtain ⟨a, ha, _⟩ := hr 0 h
  exact ⟨a, ha⟩
theorem Index_EO (r0 : Go.Dn.RB w A0 l) (hc : l.length ≤ c0) (hl : l.length ≤ 100000000) (h0 : 0 < l.length) (r1 : Go.Dn.RB w A1 EO) (hM : Mx w) : Calls Tryd.prog 77 #[.slice A0 l.length c0, .slice A1 2 c1] w fun e w' => e = .returned (.int .i64 (Lib.index l EO)) ∧ Below w.heap.size w w' := by
  obtain ⟨a0, rfl⟩ := rb_some r0 h0
  obtain ⟨a1, rfl⟩ := rb_some r1 (by simp)
  obtain ⟨m, hm⟩ := hM
  have := Any.bytes_Index_at indexA a0 a1 l.length c0 2 c1 (nums l) (nums EO) m w (nums_len l) rfl (nums_in l) (nums_in EO) (rb_nums r0) (rb_nums (l := EO) r1) hc (by omega) (by omega) hm
  rw [bytesOf_nums, bytesOf_nums] at this
  refine this.mono ?_
  rintro _ w' ⟨rfl, q, rfl⟩
  exact ⟨rfl, drewN_below _ _ _⟩
theorem Count_EO (r0 : Go.Dn.RB w A0 l) (hz : A0 = none → c0 = 0) (hc : l.length ≤ c0) (hl : l.length ≤ 100000000) (r1 : Go.Dn.RB w A1 EO) (hM : Mx w) : Calls Tryd.prog 76 #[.slice A0 l.length c0, .slice A1 2 c1] w fun e w' => e = .returned (.int .i64 (Lib.count l EO : Int)) ∧ Below w.heap.size w w' := by
  obtain ⟨a1, rfl⟩ := rb_some r1 (by simp)
  obtain ⟨m, hm⟩ := hM
  cases A0 with
  | none =>
    have e := rb_none r0
    subst e
    have hz := hz rfl
    subst hz
    refine (Any.bytes_Count_nil countA (some a1) 2 c1 w (by omega) (by omega)).mono ?_
    rintro _ w' ⟨rfl, rfl⟩
    exact ⟨rfl, Below.refl _ _⟩
  | some a0 =>
    have := Any.bytes_Count_at countA a0 a1 l.length c0 2 c1 (nums l) (nums EO) m w (nums_len l) rfl (nums_in l) (nums_in EO) (rb_nums r0) (rb_nums (l := EO) r1) hc (by omega) (by omega) (by omega) hm
    rw [bytesOf_nums, bytesOf_nums] at this
    refine this.mono ?_
    rintro _ w' ⟨rfl, q, rfl⟩
    exact ⟨rfl, drewN_below _ _ _⟩
theorem cutE_len (l : List UInt8) : (cutE l).1.length * 2 + (cutE l).2.length ≤ l.length := by
  have h1 := congrArg List.length (cutE_spec l).1
  rw [J_len] at h1
  simp only [List.length_cons, List.length_nil] at h1
  omega
theorem Unescape_ok (r0 : Go.Dn.RB w A0 l) (hz : A0 = none → c0 = 0) (hc : l.length ≤ c0) (r1 : Go.Dn.RB w A1 EO) (r2 : Go.Dn.RB w A2 [0]) (hl : l.length ≤ 8000000) (hM : Mx w) :
    Calls Tryd.prog 45 #[.slice A0 l.length c0, .slice A1 2 c1, .slice A2 1 c2] w fun e w' => ∃ A c, e = .returned (.slice A (unescL l).length c) ∧ OwnB w' w.heap.size TU8 A c (unescL l) ∧ Below w.heap.size w w' := by
  apply f_bytes_ReplaceAll.ok
  unfold f_bytes_ReplaceAll.wp
  obtain ⟨h1, h2, h3⟩ := cutE_spec l
  have hle := unescL_len l
  have hm0 := hM.lt
  have hrep := Replace_ok (Z := Mx) (fun g a b hg h k => h.keeps k (by omega)) hM (w := w) (A0 := A0) (A1 := A1) (A2 := A2) (c0 := c0) (c1 := c1) (c2 := c2) (l := l) (o := EO) (nw := [0]) (last := (cutE l).2) (segs := (cutE l).1) r0 hz hc r1 (by simp) r2 (by simp) h1.symm (by unfold unescL at hle; omega) (by omega) (by rw [← h2]; exact Count_EO r0 hz hc (by omega) r1 hM) (fun p s r hd hsuf w' q0 q1 q2 => by
    have hcut := cutE_J hsuf hd
    have hsp := (cutE_spec (l.drop p)).2.2
    rw [hcut] at hsp
    have hsp : Lib.index (l.drop p) EO = (s.length : Int) := hsp
    have hlen : (l.drop p).length = l.length - p := List.length_drop
    have hpos : 0 < (l.drop p).length := by rw [hd, J, List.length_append, List.length_append]; simp; omega
    have rd := rb_sl (f := p) (k := l.length - p) q0 hc
    rw [List.take_of_length_le (by omega)] at rd
    have := Index_EO (c0 := c0 - p) (c1 := c1) rd (by omega) (by omega) hpos q1 q2
    rw [hlen, hsp] at this
    exact this)
  have e : J [0] (cutE l).1 (cutE l).2 = unescL l := rfl
  rw [e] at hrep
  refine hrep.mono ?_
  rintro _ w' ⟨A, c, rfl, o, g⟩
  exact ⟨_, _, _, rfl, A, c, rfl, o, g⟩
theorem conv_strA {w : World} {A : Option Addr} {l : List UInt8} {n c : Nat} (hr : Go.Dn.RB w A l) (hn : n = l.length) {K : Value → World → Prop}
    (hK : K (.string ⟨l.toArray⟩) w) : Runs Tryd.prog (Go.convert 24 9 (.slice A n c)) w K := by
  subst hn
  cases A with
  | none =>
    have e := rb_none hr
    subst e
    rw [List.length_nil]
    refine runs_of ?_ hK
    rw [run_convert_bytes_string w 24 9 TU8 none 0 c (by kernel_rfl) (by kernel_rfl) (by kernel_rfl)]
    rfl
  | some a =>
    refine runs_of (run_convert_bytes_back w 24 9 TU8 a c l (by kernel_rfl) (by kernel_rfl) (by kernel_rfl) ?_) hK
    intro i hi
    obtain ⟨a', ha, hc⟩ := hr i hi
    injection ha with ha; subst ha
    exact hc
theorem Equal_ok {l' : List UInt8} {n n' : Nat} (r0 : Go.Dn.RB w A0 l) (r1 : Go.Dn.RB w A1 l') (hn : n = l.length) (hn' : n' = l'.length) : Calls Tryd.prog 48 #[.slice A0 n c0, .slice A1 n' c1] w fun e w' => e = .returned (.bool (decide (l = l'))) ∧ w' = w := by
  apply f_bytes_Equal.ok
  unfold f_bytes_Equal.wp
  refine conv_strA r0 hn ⟨_, rfl, conv_strA r1 hn' ⟨_, rfl, ?_, rfl⟩⟩
  rw [sL_eq]; rfl
/-- the program's Split -/
def splitL (l : List UInt8) : List UInt8 × Int × Int :=
  if l.length < 10 then ([], 0, 40) else
  if (l.drop (l.length - 10)).take 2 = [0, 0] then
    (if versL (unescL (l.take (l.length - 10))) (timeOf (l.drop (l.length - 8))) = (l, 0) then (unescL (l.take (l.length - 10)), timeOf (l.drop (l.length - 8)), 0) else ([], 0, 40))
  else ([], 0, 40)
theorem Split_ok (r0 : Go.Dn.RB w A l) (hz : A = none → c = 0) (hc : l.length ≤ c) (hl : l.length ≤ 8000000) (hM : Mx w) :
    Calls Tryd.prog 21 #[.slice A l.length c] w fun e w' => ∃ A c, e = .returned (.tuple #[.slice A (splitL l).1.length c, .int .i64 (splitL l).2.1, .int .i64 (splitL l).2.2]) ∧ OwnB w' w.heap.size TU8 A c (splitL l).1 ∧ Below w.heap.size w w' := by
  apply f_keys_Split.ok
  unfold f_keys_Split.wp
  obtain ⟨R, hR⟩ : ∃ R, splitL l = R := ⟨_, rfl⟩
  rw [hR]
  unfold splitL at hR
  have bad : ∀ w', R = ([], 0, 40) → Below w.heap.size w w' → ∃ A c, Ending.returned (.tuple #[.slice none 0 0, .int .i64 (0 : Int), .int .i64 (40 : Int)]) = .returned (.tuple #[.slice A R.1.length c, .int .i64 R.2.1, .int .i64 R.2.2]) ∧ OwnB w' w.heap.size TU8 A c R.1 ∧ Below w.heap.size w w' := fun w' e b => by
    subst e
    exact ⟨none, 0, rfl, World.ownsRow_nil _ _ _ _, b⟩
  have ez : IntKind.i64.wrap ((l.length : Int) - 10) = (l.length : Int) - 10 := w64_in (by omega)
  rw [ez]
  by_cases hs : l.length < 10
  · rw [if_pos hs] at hR
    exact sel_t (by simp; omega) (bad _ hR.symm (Below.refl _ _))
  rw [if_neg hs] at hR
  obtain ⟨N, hN⟩ : ∃ N, l.length = N + 10 := ⟨l.length - 10, by omega⟩
  rw [show l.length - 10 = N by omega, show l.length - 8 = N + 2 by omega] at hR
  rw [show (l.length : Int) - 10 = (N : Int) by omega]
  have hd := drop_cons (l := l) (i := N) (by omega)
  have hd2 := drop_cons (l := l) (i := N + 1) (by omega)
  have ht2 : (l.drop N).take 2 = [l[N], l[N + 1]] := by rw [hd, hd2]; rfl
  rw [ht2] at hR
  have e1 : IntKind.i64.wrap ((N : Int) + 1) = ((N + 1 : Nat) : Int) := w64n (by omega) (by omega)
  have e2 : IntKind.i64.wrap ((N : Int) + 2) = ((N + 2 : Nat) : Int) := w64n (by omega) (by omega)
  have nz : ∀ x : UInt8, x ≠ 0 → ((x.toNat : Int) != 0) = true := fun x hx => by
    rw [bne_iff_ne]; intro h
    exact hx (UInt8.toNat_inj.1 (by show x.toNat = 0; omega))
  refine sel_f (by simp) (rb_ld (i := N) r0 (by omega) rfl rfl ?_)
  by_cases q0 : l[N] = 0
  case neg =>
    rw [if_neg (by intro h; injection h with h _; exact q0 h)] at hR
    exact sel_t (nz _ q0) (bad _ hR.symm (Below.refl _ _))
  refine sel_f (by rw [q0]; rfl) ?_
  rw [e1]
  refine rb_ld (i := N + 1) r0 (by omega) rfl rfl ?_
  by_cases q1 : l[N + 1] = 0
  case neg =>
    rw [if_neg (by intro h; injection h with _ h; injection h with h _; exact q1 h)] at hR
    exact sel_t (nz _ q1) (bad _ hR.symm (Below.refl _ _))
  refine sel_f (by rw [q1]; rfl) ?_
  rw [if_pos (by rw [q0, q1])] at hR
  rw [e2, Int.toNat_natCast]
  refine req_intro (by simp; omega) (req_intro (by simp; omega) ?_)
  have r8 : Go.Dn.RB w (slA A (N + 2) c 1) (l.drop (N + 2)) := by
    have := rb_sl (f := N + 2) (k := l.length - (N + 2)) r0 hc
    rw [List.take_of_length_le (by rw [List.length_drop]; omega)] at this; exact this
  have h8 : (l.drop (N + 2)).length = 8 := by rw [List.length_drop]; omega
  obtain ⟨b0, b1, b2, b3, b4, b5, b6, b7, hb⟩ : ∃ b0 b1 b2 b3 b4 b5 b6 b7, l.drop (N + 2) = [b0, b1, b2, b3, b4, b5, b6, b7] := by
    match hh : l.drop (N + 2), h8 with
    | [b0, b1, b2, b3, b4, b5, b6, b7], _ => exact ⟨_, _, _, _, _, _, _, _, rfl⟩
  rw [hb] at r8 hR
  obtain ⟨a8, ea8⟩ := rb_some r8 (by simp)
  have ld : ∀ (j : Nat) (hj : j < 8), w.cell? (a8.add j) = some (byteV ([b0, b1, b2, b3, b4, b5, b6, b7][j])) := fun j hj => by
    obtain ⟨a', ha', hc'⟩ := r8 j hj
    rw [ea8] at ha'; injection ha' with ha'; subst ha'
    exact hc'
  refine optB_some ea8 (ldI_intro (ld 0 (by omega)) (ldI_intro (ld 1 (by omega)) (ldI_intro (ld 2 (by omega)) (ldI_intro (ld 3 (by omega)) (ldI_intro (ld 4 (by omega)) (ldI_intro (ld 5 (by omega)) (ldI_intro (ld 6 (by omega)) (ldI_intro (ld 7 (by omega)) ?_))))))))
  refine (UnBig_ok b0 b1 b2 b3 b4 b5 b6 b7).mono ?_
  rintro _ w1 ⟨rfl, g1⟩
  have hv : valB [b0, b1, b2, b3, b4, b5, b6, b7] < 18446744073709551616 := by
    have := valB_lt [b0, b1, b2, b3, b4, b5, b6, b7]
    have e : (256 : Nat) ^ 8 = 18446744073709551616 := by decide
    simp only [List.length_cons, List.length_nil] at this
    omega
  have et : IntKind.i64.wrap (0 - ((valB [b0, b1, b2, b3, b4, b5, b6, b7] : Int) - 9223372036854775808)) = timeOf [b0, b1, b2, b3, b4, b5, b6, b7] := by
    unfold timeOf
    rw [i64w, i64w]; omega
  refine ⟨_, rfl, req_intro (by simp; omega) ?_⟩
  rw [et, Int.toNat_natCast]
  obtain ⟨t, htt⟩ : ∃ t, timeOf [b0, b1, b2, b3, b4, b5, b6, b7] = t := ⟨_, rfl⟩
  have hti : -9223372036854775808 ≤ t ∧ t ≤ 9223372036854775807 := by
    rw [← htt]; unfold timeOf; rw [i64w]; omega
  rw [htt] at hR ⊢
  refine lit_ok (l := EO) rfl (by simp) fun b3 w3 e3 o3 g3 => lit_ok (l := [0]) rfl (by simp) fun b4 w4 e4 o4 g4 => ?_
  have s1 := g1.size
  have s3 := g3.size
  have s4 := g4.size
  have g14 : Below w.heap.size w w4 := (g1.trans (g3.mono s1)).trans (g4.mono (by omega))
  have rk : Go.Dn.RB w4 (slA A 0 c 1) (l.take N) := by
    have := rb_sl (f := 0) (k := N) (r0.below g14 (Nat.le_refl _)) hc
    rw [List.drop_zero] at this; exact this
  have htl : (l.take N).length = N := by rw [List.length_take]; omega
  have hcall := Unescape_ok (c0 := c - 0) (c1 := 2) (c2 := 1) rk (fun h => by
    rw [slA0] at h
    have := hz h
    omega) (by omega) (o3.keep g4).reads o4.reads (by omega) (hM.below g14)
  rw [htl] at hcall
  refine hcall.mono ?_
  rintro _ w5 ⟨A5, c5, rfl, o5, g5⟩
  have s5 := g5.size
  have hul := unescL_len (l.take N)
  refine ⟨_, _, _, rfl, (Version_ok (t := t) o5.reads o5.nil0 o5.le (by omega) hti).mono ?_⟩
  rintro _ w6 ⟨A6, c6, rfl, o6, g6⟩
  have g16 : Below w.heap.size w w6 := (g14.trans (g5.mono (by omega))).trans (g6.mono (by omega))
  obtain ⟨V, hV⟩ : ∃ V, versL (unescL (l.take N)) t = V := ⟨_, rfl⟩
  rw [hV] at o6 hR ⊢
  obtain ⟨vk, ve⟩ := V
  refine ⟨_, _, _, _, rfl, ?_⟩
  dsimp only at o6 ⊢
  by_cases q : ve = 0
  case neg =>
    rw [if_neg (by intro h; injection h with _ h; exact q h)] at hR
    exact sel_t (by rw [bne_iff_ne]; exact q) (bad _ hR.symm g16)
  refine sel_f (by rw [q]; rfl) ((Equal_ok o6.reads (r0.below g16 (Nat.le_refl _)) rfl rfl).mono ?_)
  rintro _ w7 ⟨rfl, rfl⟩
  refine ⟨_, rfl, ?_⟩
  by_cases q2 : vk = l
  · rw [if_pos (by rw [q, q2])] at hR
    subst hR
    refine sel_f (by simp [q2]) ⟨_, _, rfl, OwnB.mono (o5.keep g6) (by omega), g16⟩
  · rw [if_neg (by intro h; injection h with h _; exact q2 h)] at hR
    exact sel_t (by simp [q2]) (bad _ hR.symm g16)
end
/-! ### the same answer -/
theorem be8_val8 {b : List UInt8} (h : b.length = 8) : be8 (valB b) = b := by
  match b, h with
  | [b0, b1, b2, b3, b4, b5, b6, b7], _ => exact be8_valB b0 b1 b2 b3 b4 b5 b6 b7
theorem bigL_time {b : List UInt8} (h : b.length = 8) (ht : ¬ badT (timeOf b)) : bigL (timeOf b) = b := by
  have hv := valB_lt b
  rw [h] at hv
  have e : (256 : Nat) ^ 8 = 18446744073709551616 := by decide
  unfold badT timeOf at ht
  rw [i64w] at ht
  unfold bigL timeOf
  rw [i64w]
  have : (-((9223372036854775808 - (valB b : Int) + 9223372036854775808) % 18446744073709551616 - 9223372036854775808) + 9223372036854775808).toNat = valB b := by omega
  rw [this, be8_val8 h]
theorem split_same (l : List UInt8) : splitL l = rsplitL l := by
  unfold splitL rsplitL
  by_cases hs : l.length < 10
  · rw [if_pos hs, if_pos hs]
  rw [if_neg hs, if_neg hs]
  obtain ⟨N, hN⟩ : ∃ N, l.length = N + 10 := ⟨l.length - 10, by omega⟩
  dsimp only
  rw [show l.length - 10 = N by omega, show l.length - 8 = N + 2 by omega]
  have h8 : (l.drop (N + 2)).length = 8 := by rw [List.length_drop]; omega
  have hl : l = l.take N ++ (l.drop N).take 2 ++ l.drop (N + 2) := by
    rw [List.append_assoc]
    conv => lhs; rw [← List.take_append_drop N l, ← List.take_append_drop 2 (l.drop N), List.drop_drop]
  by_cases q : (l.drop N).take 2 = [0, 0]
  case neg =>
    rw [if_neg q]
    cases decL (l.take N) with
    | none => rfl
    | some k => simp only; rw [if_neg q]
  rw [if_pos q]
  unfold versL
  by_cases hb : badT (timeOf (l.drop (N + 2)))
  · rw [if_pos hb, if_neg (by intro h; injection h with _ h; cases h)]
    cases decL (l.take N) with
    | none => rfl
    | some k => simp only; rw [if_pos q, if_pos hb]
  rw [if_neg hb, bigL_time h8 hb]
  cases hd : decL (l.take N) with
  | none =>
    rw [if_neg]
    intro h
    injection h with h _
    have hne := decL_none _ hd
    apply hne
    rw [q] at hl
    have h2 : escL (unescL (l.take N)) ++ [0, 0] ++ l.drop (N + 2) = l.take N ++ [0, 0] ++ l.drop (N + 2) := h.trans hl
    rw [List.append_assoc, List.append_assoc] at h2
    exact (List.append_inj' h2 rfl).1
  | some k =>
    obtain ⟨e1, e2⟩ := esc_decL _ _ _ rfl hd
    simp only
    rw [if_pos q, if_neg hb, e2, e1]
    rw [if_pos]
    rw [q] at hl
    rw [← hl]
end Go.Proofs.YtakgoekfnhkgaaaDoor.Rd
