/- page: the document's bytes of a page. Conditions: a page that can be. -/
import Derived.Test.YtifambgaekjilaaDoorPgN
import Derived.Test.YtifambgaekjilaaDoorPgT
import Derived.Test.YtifambgaekjilaaDoorCsE
import Derived.Test.YtifambgaekjilaaDoorRdE
namespace Go.Proofs.YtifambgaekjilaaDoor.Rd
open Go.Dn Go.RowKit
set_option linter.unusedVariables false
set_option linter.unusedSimpArgs false
set_option maxRecDepth 100000
/-- a byte more behind a row: what 'append(out, b)' comes to -/
theorem app_one {w : World} {B : Nat} {A : Option Addr} {n c : Nat} {l : List UInt8} {b : UInt8} {K : Value → World → Prop} (ho : OwnB w B 5 A c l) (hn : n = l.length) (hB : B ≤ w.heap.size) (hlen : l.length ≤ 140737488355300)
    (hK : ∀ A' c' w', OwnB w' B 5 A' c' (l ++ [b]) → Below B w w' → B ≤ w'.heap.size → K (.slice A' (l.length + 1) c') w') :
    alW w (.cells #[.int .u8 (b.toNat : Int)] 5) fun B1 w2 => Runs Tryd.prog (Builtin.append_ #[22, 22] 22 #[.slice A n c, .slice (some (⟨B1, 0, Option.none⟩ : Addr)) 1 1]) w2 K := by
  refine alW_intro ?_
  have hba := (Below.refl w.heap.size w).alloc (Nat.le_refl _) (.cells #[.int .u8 (b.toNat : Int)] 5)
  have h1 : Go.Dn.RB (w.alloc (.cells #[.int .u8 (b.toNat : Int)] 5)) (some ⟨w.heap.size, 0, none⟩) [b] := (OwnB.lit (B := B) [b] rfl hB (by simp)).reads
  refine app_runs TBy (ho.keep hba) hn h1 rfl (fun h => by cases h) (Nat.le_trans hB hba.size) (by simp; omega) ?_
  intro A' c' w' ho' hb' _ _
  have := hK A' c' w' ho' ((hba.mono hB).trans hb') (Nat.le_trans (Nat.le_trans hB hba.size) hb'.size)
  rw [List.length_append, List.length_singleton]; exact this
theorem mod_byte (u : Nat) : IntKind.u8.wrap ((u : Int).tmod (256 : Int)) = ((UInt8.ofNat u).toNat : Int) := by
  rw [Int.tmod_eq_emod_of_nonneg (by omega), u8w, UInt8.toNat_ofNat']; omega
theorem u64v {x : Int} (h : 0 ≤ x ∧ x < 18446744073709551616) : IntKind.u64.wrap x = x := by
  have : IntKind.u64.wrap x = x % 18446744073709551616 := by simp [IntKind.wrap, IntKind.bits, IntKind.signed]
  rw [this]; omega
theorem low_l0 {w0 : World} {B n : Nat} (hn : n ≤ 1000) {K : Option Addr → Nat → Nat → World → Prop} : ∀ (m i u : Nat) (acc : List UInt8) (A : Option Addr) (c : Nat) (w : World), m + i = n → acc.length = i → u < 18446744073709551616 → OwnB w B TU8 A c acc → Below B w0 w → B ≤ w.heap.size →
    (∀ A' c' w', OwnB w' B TU8 A' c' (acc ++ leN m u) → Below B w0 w' → B ≤ w'.heap.size → K A' (acc ++ leN m u).length c' w') → f_ref08_low.l0 (m + 1) (u : Int) (n : Int) A acc.length c (i : Int) w K := by
  intro m
  induction m with
  | zero =>
    intro i u acc A c w hi hl hu ho g hB hK
    have := hK A c w (by simpa [leN] using ho) g hB
    unfold f_ref08_low.l0
    refine sel_f (by simp; omega) ?_
    simpa [leN] using this
  | succ m ih =>
    intro i u acc A c w hi hl hu ho g hB hK
    unfold f_ref08_low.l0
    refine sel_t (by simp; omega) ?_
    rw [mod_byte]
    refine app_one ho rfl hB (by omega) fun A' c' w' o' g' z' => ⟨_, _, _, rfl, ?_⟩
    rw [show IntKind.i64.wrap ((i : Int) + 1) = ((i + 1 : Nat) : Int) by rw [w64_in (by omega)]; omega]
    have e1 : (u : Int).tdiv (256 : Int) = ((u / 256 : Nat) : Int) := by rw [Int.tdiv_eq_ediv_of_nonneg (by omega)]; omega
    rw [e1, u64v (by omega)]
    have := ih (i + 1) (u / 256) (acc ++ [UInt8.ofNat u]) A' c' w' (by omega) (by rw [List.length_append, List.length_singleton]; omega) (by omega) o' (g.trans g') z' fun A2 c2 w2 o2 g2 z2 => by
      have e : acc ++ [UInt8.ofNat u] ++ leN m (u / 256) = acc ++ leN (m + 1) u := by rw [List.append_assoc]; rfl
      rw [e] at o2 ⊢
      exact hK A2 c2 w2 o2 g2 z2
    rw [List.length_append, List.length_singleton] at this
    exact this
theorem Rlow_ok {w : World} {u n : Nat} (hn : n ≤ 1000) (hu : u < 18446744073709551616) : Calls Tryd.prog 65 #[.int .u64 (u : Int), .int .i64 (n : Int)] w fun e w' => ∃ A c, e = .returned (.slice A (leN n u).length c) ∧ OwnB w' w.heap.size TU8 A c (leN n u) ∧ Below w.heap.size w w' := by
  apply f_ref08_low.ok
  unfold f_ref08_low.wp
  refine alW_intro ⟨n + 1, ?_⟩
  have h0 := OwnB.lit (w := w) (B := w.heap.size) (e := 5) [] (cs := #[]) rfl (Nat.le_refl _) (by simp)
  have g0 : Below w.heap.size w (w.alloc (.cells #[] TU8)) := (Below.refl _ _).alloc (Nat.le_refl _) _
  exact low_l0 (w0 := w) hn n 0 u [] _ 0 _ (by omega) rfl hu h0 g0 g0.size fun A' c' w' o' g' _ _ => ⟨A', c', by rw [List.nil_append], by simpa using o', g'⟩
/-! ### facts of regions of open order -/
def slF (l : List UInt8) (v : Value) (w : World) : Prop := ∃ A c, v = .slice A l.length c ∧ Go.Dn.RB w A l
theorem slF.keep {l : List UInt8} {v : Value} {a b : World} (h : slF l v a) (g : Keeps XF a b) : slF l v b := by
  obtain ⟨A, c, e, r⟩ := h
  exact ⟨A, c, e, RBk r g fun _ _ h => h⟩
theorem slF.arg {l : List UInt8} {A : Option Addr} {n c : Nat} {w : World} (h : slF l (.slice A n c) w) : n = l.length ∧ Go.Dn.RB w A l := by
  obtain ⟨A', c', e, r⟩ := h
  injection e with e1 e2 e3
  subst e1; subst e2
  exact ⟨rfl, r⟩
def slO (B : Nat) (l : List UInt8) (v : Value) (w : World) : Prop := ∃ A c, v = .slice A l.length c ∧ OwnB w B TU8 A c l
theorem slO.keep {B : Nat} {l : List UInt8} {v : Value} {a b : World} (h : slO B l v a) (g : Keeps XF a b) : slO B l v b := by
  obtain ⟨A, c, e, r⟩ := h
  exact ⟨A, c, e, OwnB.keepsB r g fun _ _ h => h⟩
theorem slO.arg {B : Nat} {l : List UInt8} {A : Option Addr} {n c : Nat} {w : World} (h : slO B l (.slice A n c) w) : n = l.length ∧ OwnB w B TU8 A c l := by
  obtain ⟨A', c', e, r⟩ := h
  injection e with e1 e2 e3
  subst e1; subst e2; subst e3
  exact ⟨rfl, r⟩
theorem bel_of {a b : World} (g : Keeps XF a b) : Below a.heap.size a b := g.below (Nat.le_refl _) fun _ _ h => h
def PhA (x : Int) (k : UInt8) (l8 : List UInt8) : Nat → Value → World → Prop
  | 1, v, _ => v = .int .i64 x
  | 3, v, w => slF l8 v w
  | 5, v, _ => v = .int .u8 (k.toNat : Int)
  | 6, v, w => slF [k] v w
  | 7, v, w => slF (l8 ++ [k]) v w
  | _, _, _ => True
theorem PhA_keep {x : Int} {k : UInt8} {l8 : List UInt8} {a b : World} (g : Keeps XF a b) : ∀ (i : Nat) (v : Value), PhA x k l8 i v a → PhA x k l8 i v b
  | 0, _, _ => trivial
  | 1, _, h => h
  | 2, _, _ => trivial
  | 3, _, h => slF.keep h g
  | 4, _, _ => trivial
  | 5, _, h => h
  | 6, _, h => slF.keep h g
  | 7, _, h => slF.keep h g
  | _ + 8, _, _ => trivial
def PhB (B : Nat) (x : Int) (n : Nat) (A : Option Addr) (l : List UInt8) (l4 : List UInt8) (c : Nat) : Nat → Value → World → Prop
  | 2, v, _ => v = .int .u32 x
  | 4, v, w => slF l4 v w
  | 5, v, w => slF (l ++ l4) v w
  | 7, v, _ => v = .slice A n c
  | 10, v, w => slF [UInt8.ofNat n] v w
  | 11, v, w => slO B (l ++ l4 ++ [UInt8.ofNat n]) v w
  | _, _, _ => True
theorem PhB_keep {B : Nat} {x : Int} {n c : Nat} {A : Option Addr} {l l4 : List UInt8} {a b : World} (g : Keeps XF a b) : ∀ (i : Nat) (v : Value), PhB B x n A l l4 c i v a → PhB B x n A l l4 c i v b
  | 0, _, _ => trivial
  | 1, _, _ => trivial
  | 2, _, h => h
  | 3, _, _ => trivial
  | 4, _, h => slF.keep h g
  | 5, _, h => slF.keep h g
  | 6, _, _ => trivial
  | 7, _, h => h
  | 8, _, _ => trivial
  | 9, _, _ => trivial
  | 10, _, h => slF.keep h g
  | 11, _, h => slO.keep h g
  | _ + 12, _, _ => trivial
section
variable {w w0 : World} {b lo hi c : Nat} {A : Option Addr} {its : List (List UInt8)} {x0 x1 x2 : Int} {t : TypeId}
theorem RBytes_l0 (hx : ∀ y ∈ its, y.length ≤ 200) (hn : its.length ≤ 100) (hu : 18 + 2 * its.length + lensL its ≤ 512) (H : List UInt8) (hH : H.length = 14) {K : Option Addr → Nat → Nat → Option Addr → Nat → Nat → World → Prop} :
    ∀ (m i : Nat) (w : World) (A3 A4 : Option Addr) (c3 c4 Bh : Nat), m + i = its.length → HB w b (r4 x0 x1 x2 A its.length c) t → BBs w lo hi A its → OwnB w Bh TU8 A3 c3 (H ++ slotsF (its.take i) 512) → (∀ w', Below Bh w w' → Go.Dn.RB w' A4 (revF (its.take i))) → w0.heap.size ≤ Bh → Bh ≤ w.heap.size → Below w0.heap.size w0 w →
      (∀ w' A3 c3 A4 c4 Bh, OwnB w' Bh TU8 A3 c3 (H ++ slotsF its 512) → (∀ w2, Below Bh w' w2 → Go.Dn.RB w2 A4 (revF its)) → Below w0.heap.size w0 w' → w0.heap.size ≤ Bh → Bh ≤ w'.heap.size → K A3 (H ++ slotsF its 512).length c3 A4 (revF its).length c4 w') →
      f_ref08_Bytes.l0 (m + 1) ⟨b, 0, none⟩ A3 (H ++ slotsF (its.take i) 512).length c3 A4 (revF (its.take i)).length c4 ((512 - lensL (its.take i) : Nat) : Int) (i : Int) w K := by
  intro m
  induction m with
  | zero =>
    intro i w A3 A4 c3 c4 Bh hi' hb bb r3 hr hz hz2 g hK
    unfold f_ref08_Bytes.l0
    rw [List.take_of_length_le (by omega)] at r3 hr ⊢
    exact hb_ldS hb (j := 3) (A := A) (n := its.length) (c := c) rfl (sel_f (by simp; omega) (hK w A3 c3 A4 c4 Bh r3 hr g hz hz2))
  | succ m ih =>
    intro i w A3 A4 c3 c4 Bh hi' hb bb r3 hr hz hz2 g hK
    have r4' := hr w (Below.refl _ _)
    have hlt : i < its.length := by omega
    have ht := lensL_take its hlt
    have hle := lensL_le its (i + 1)
    have hxi := hx _ (List.getElem_mem hlt)
    have hte : its.take (i + 1) = its.take i ++ [its[i]] := List.take_succ_eq_append_getElem hlt
    have e1 : slotsF (its.take (i + 1)) 512 = slotsF (its.take i) 512 ++ leN 2 (512 - lensL (its.take (i + 1))) := by
      rw [ht, hte, slotsF_app]
      congr 2
      omega
    have e2 : revF (its.take (i + 1)) = its[i] ++ revF (its.take i) := by rw [hte, revF_app]
    have hl3 : (slotsF (its.take i) 512).length ≤ 200 := by rw [slotsF_len, List.length_take]; omega
    have hl4 : (revF (its.take i)).length ≤ 512 := by rw [revF_len]; have := lensL_le its i; omega
    unfold f_ref08_Bytes.l0
    refine hb_ldS hb (j := 3) (A := A) (n := its.length) (c := c) rfl (sel_t (by simp; omega) (hb_ldS hb (j := 3) (A := A) (n := its.length) (c := c) rfl (bbs_ld bb hlt rfl fun A50 c50 r50 => hb_ldS hb (j := 3) (A := A) (n := its.length) (c := c) rfl (bbs_ld bb hlt rfl fun A53 c53 r53 => (Cat_ok r53 r4' rfl rfl (by omega)).mono ?_))))
    rintro _ w1 ⟨A56, c56, rfl, o56, g1⟩
    have ez : IntKind.i64.wrap (((512 - lensL (its.take i) : Nat) : Int) - (its[i].length : Int)) = ((512 - lensL (its.take (i + 1)) : Nat) : Int) := by rw [w64_in (by omega)]; omega
    rw [ez, u64v (by omega)]
    refine ⟨_, _, _, rfl, (Rlow_ok (n := 2) (by decide) (by omega)).mono ?_⟩
    rintro _ w2 ⟨A59, c59, rfl, o59, g2⟩
    have sz1 := g1.size
    have sz2 := g2.size
    have g12 := g1.trans (g2.mono sz1)
    refine ⟨_, _, _, rfl, (Cat_ok (r3.reads.below g12 (Nat.le_refl _)) o59.reads rfl rfl (by rw [List.length_append, leN_len]; omega)).mono ?_⟩
    rintro _ w3 ⟨A62, c62, rfl, o62, g3⟩
    have g13 := g12.trans (g3.mono (by omega))
    have sz3 := g3.size
    refine ⟨_, _, _, rfl, ?_⟩
    rw [show IntKind.i64.wrap ((i : Int) + 1) = ((i + 1 : Nat) : Int) by rw [w64_in (by omega)]; omega]
    have o3 := o62
    have r2 := o56.reads.below g2 (Nat.le_refl _)
    have o4 : ∀ w', Below w2.heap.size w3 w' → Go.Dn.RB w' A56 (its[i] ++ revF (its.take i)) := fun w' g' => r2.below (g3.trans g') (Nat.le_refl _)
    rw [List.append_assoc, ← e1] at o3 ⊢
    rw [← e2] at o4 ⊢
    exact ih (i + 1) w3 A62 A56 c62 c56 w2.heap.size (by omega) (hb.below g13) (bb.below g13) o3 o4 (by omega) (by omega) (g.trans (g13.mono (by omega))) hK
theorem RBytes_l1 {B n4 c4 : Nat} {A4 : Option Addr} {K : Option Addr → Nat → Nat → World → Prop} : ∀ (m : Nat) (l : List UInt8) (w : World) (A3 : Option Addr) (c3 : Nat), l.length + n4 + m = 508 → OwnB w B TU8 A3 c3 l → B ≤ w.heap.size → Below w0.heap.size w0 w → w0.heap.size ≤ B →
    (∀ w' A3 c3, OwnB w' B TU8 A3 c3 (l ++ List.replicate m 0) → Below w0.heap.size w0 w' → Below B w w' → K A3 (l ++ List.replicate m 0).length c3 w') → f_ref08_Bytes.l1 (m + 1) A3 l.length c3 A4 n4 c4 w K := by
  intro m
  induction m with
  | zero =>
    intro l w A3 c3 hl ho hB g hB0 hK
    have := hK w A3 c3 (by simpa using ho) g (Below.refl _ _)
    unfold f_ref08_Bytes.l1
    refine sel_f (by rw [w64_in (by omega)]; simp; omega) ?_
    simpa using this
  | succ m ih =>
    intro l w A3 c3 hl ho hB g hB0 hK
    unfold f_ref08_Bytes.l1
    refine sel_t (by rw [w64_in (by omega)]; simp; omega) ?_
    refine app_one (b := 0) ho rfl hB (by omega) fun A' c' w' o' g' z' => ⟨_, _, _, rfl, ?_⟩
    have := ih (l ++ [0]) w' A' c' (by rw [List.length_append, List.length_singleton]; omega) o' z' (g.trans (g'.mono hB0)) hB0 fun w2 A2 c2 o2 g2 b2 => by
      have e : l ++ [0] ++ List.replicate m 0 = l ++ List.replicate (m + 1) (0 : UInt8) := by rw [List.append_assoc]; rfl
      rw [e] at o2 ⊢
      exact hK w2 A2 c2 o2 g2 (g'.trans b2)
    rw [List.length_append, List.length_singleton] at this
    exact this
set_option maxHeartbeats 1000000 in
theorem RBytes_ok {p : Pg} (hp : PgOk p) (h : BBs w lo hi A p.items) :
    Calls Tryd.prog 39 #[.agg #[.int .i64 (p.lsn : Int), .int .u8 (p.kind.toNat : Int), .int .u32 (p.extra : Int), .slice A p.items.length c]] w fun e w' => ∃ A' c', e = .returned (.slice A' (bytesL p).length c') ∧ OwnB w' w.heap.size TU8 A' c' (bytesL p) ∧ Below w.heap.size w w' := by
  have hn := hp.n
  have hu := hp.u
  have hl := hp.l
  have he := hp.e
  refine f_ref08_Bytes.ok _ _ _ _ _ _ _ _ ?_
  unfold f_ref08_Bytes.wp
  refine al_new fun w1 b e1 s1 h1 g1 => drW_intro ?_
  have i1 : HB w1 b (r4 p.lsn p.kind.toNat p.extra A p.items.length c) TRp := h1
  have gd : Below w1.heap.size w1 w1.drew := (Below.refl _ _).drew
  have i2 := i1.below gd
  have g2 : Below w.heap.size w w1.drew := g1.trans (gd.mono (by omega))
  have bb2 := h.below g2
  obtain ⟨w2, hw2⟩ : ∃ w2, w1.drew = w2 := ⟨_, rfl⟩
  rw [hw2] at i2 g2 bb2 ⊢
  have up : ∀ {a : World}, Keeps XF w2 a → HB a b (r4 p.lsn p.kind.toNat p.extra A p.items.length c) TRp := fun k => i2.keeps k fun h => h
  refine ⟨f_ref08_Bytes.h1_ok _, Keeps XF, PhA p.lsn p.kind (leN 8 p.lsn), fun w => .refl _ _, fun a b c h k => h.trans k, fun i v a b _ g h => PhA_keep g i v h, ⟨?_, ?_, ?_, ?_, ?_, trivial⟩, ?_⟩
  · intro _ a ga
    exact hb_ldI0 (up ga) rfl ⟨.refl _ _, rfl⟩
  · intro _ a ga x hx
    have hx : (Value.int .i64 x) = .int .i64 (p.lsn : Int) := hx
    injection hx with _ hx
    subst hx
    rw [u64v (by omega)]
    refine (Rlow_ok (n := 8) (by decide) (by omega)).mono ?_
    rintro _ a' ⟨A3, c3, rfl, o3, g3⟩
    exact ⟨_, _, _, rfl, .of_below g3, ⟨_, _, rfl, o3.reads⟩⟩
  · intro _ a ga
    exact hb_ldI (up ga) (j := 1) rfl ⟨.refl _ _, rfl⟩
  · intro _ a ga x hx
    have hx : (Value.int .u8 x) = .int .u8 (p.kind.toNat : Int) := hx
    injection hx with _ hx
    subst hx
    refine alW_intro ⟨.of_below ((Below.refl _ _).alloc (Nat.le_refl _) _), ⟨_, _, rfl, (OwnB.lit (B := a.heap.size) [p.kind] rfl (Nat.le_refl _) (by simp)).reads⟩⟩
  · intro _ a ga x hx A3 n3 c3 h3 x5 h5 A6 n6 c6 h6
    obtain ⟨rfl, r3⟩ := slF.arg (h3 : slF (leN 8 p.lsn) _ a)
    obtain ⟨rfl, r6⟩ := slF.arg (h6 : slF [p.kind] _ a)
    refine (Cat_ok r3 r6 rfl rfl (by rw [leN_len]; simp)).mono ?_
    rintro _ a' ⟨A7, c7, rfl, o7, g7⟩
    exact ⟨_, _, _, rfl, .of_below g7, ⟨_, _, rfl, o7.reads⟩⟩
  intro w3 k3 x1 hx1 A3 n3 c3 h3 x5 h5 A6 n6 c6 h6 A7 n7 c7 h7
  obtain ⟨rfl, r7⟩ := slF.arg (h7 : slF (leN 8 p.lsn ++ [p.kind]) _ w3)
  refine drW_intro ?_
  have gd3 : Below w3.heap.size w3 w3.drew := (Below.refl _ _).drew
  have kd : Keeps XF w2 w3.drew := k3.trans (.of_below gd3)
  have i4 := up kd
  have r7' := r7.below gd3 (Nat.le_refl _)
  obtain ⟨w4, hw4⟩ : ∃ w4, w3.drew = w4 := ⟨_, rfl⟩
  rw [hw4] at kd i4 r7' ⊢
  have sz4 := kd.size
  have hs2 : w2.heap.size = w1.heap.size := by rw [← hw2]; rfl
  have up4 : ∀ {a : World}, Keeps XF w4 a → HB a b (r4 p.lsn p.kind.toNat p.extra A p.items.length c) TRp := fun k => i4.keeps k fun h => h
  refine ⟨f_ref08_Bytes.h2_ok _ _ _ _, Keeps XF, PhB w.heap.size p.extra p.items.length A (leN 8 p.lsn ++ [p.kind]) (leN 4 p.extra) c, fun w => .refl _ _, fun a b c h k => h.trans k, fun i v a b _ g h => PhB_keep g i v h, ⟨?_, ?_, ?_, ?_, ?_, ?_, trivial⟩, ?_⟩
  · intro _ a ga
    exact hb_ldI (up4 ga) (j := 2) rfl ⟨.refl _ _, rfl⟩
  · intro _ a ga x hx
    have hx : (Value.int .u32 x) = .int .u32 (p.extra : Int) := hx
    injection hx with _ hx
    subst hx
    rw [u64v (by omega)]
    refine (Rlow_ok (n := 4) (by decide) (by omega)).mono ?_
    rintro _ a' ⟨A3, c3, rfl, o3, g3⟩
    exact ⟨_, _, _, rfl, .of_below g3, ⟨_, _, rfl, o3.reads⟩⟩
  · intro _ a ga x hx A4 n4 c4 h4
    obtain ⟨rfl, r4'⟩ := slF.arg (h4 : slF (leN 4 p.extra) _ a)
    refine (Cat_ok (RBk r7' ga fun _ _ h => h) r4' rfl rfl (by simp only [List.length_append, leN_len, List.length_cons, List.length_nil]; omega)).mono ?_
    rintro _ a' ⟨A5, c5, rfl, o5, g5⟩
    exact ⟨_, _, _, rfl, .of_below g5, ⟨_, _, rfl, o5.reads⟩⟩
  · intro _ a ga
    exact hb_ldS (up4 ga) (j := 3) rfl ⟨.refl _ _, rfl⟩
  · intro _ a ga A7 n7 c7 h7
    have h7 : (Value.slice A7 n7 c7) = .slice A p.items.length c := h7
    injection h7 with e1 e2 e3
    subst e2
    have eb : IntKind.u8.wrap (p.items.length : Int) = ((UInt8.ofNat p.items.length).toNat : Int) := by rw [u8w, UInt8.toNat_ofNat']; omega
    rw [eb]
    refine alW_intro ⟨.of_below ((Below.refl _ _).alloc (Nat.le_refl _) _), ⟨_, _, rfl, (OwnB.lit (B := a.heap.size) [UInt8.ofNat p.items.length] rfl (Nat.le_refl _) (by simp)).reads⟩⟩
  · intro _ a ga x hx A4 n4 c4 h4 A5 n5 c5 h5 A7 n7 c7 h7 A10 n10 c10 h10
    obtain ⟨rfl, r5⟩ := slF.arg (h5 : slF (leN 8 p.lsn ++ [p.kind] ++ leN 4 p.extra) _ a)
    obtain ⟨rfl, r10⟩ := slF.arg (h10 : slF [UInt8.ofNat p.items.length] _ a)
    refine (Cat_ok r5 r10 rfl rfl (by simp only [List.length_append, leN_len, List.length_cons, List.length_nil]; omega)).mono ?_
    rintro _ a' ⟨A11, c11, rfl, o11, g11⟩
    have := ga.size
    exact ⟨_, _, _, rfl, .of_below g11, ⟨_, _, rfl, OwnB.mono o11 (by omega)⟩⟩
  intro w5 k5 x2 hx2 A4 n4 c4 h4 A5 n5 c5 h5 A7' n7' c7' h7' A10 n10 c10 h10 A11 n11 c11 h11
  have h11 : slO w.heap.size (refHead p) (.slice A11 n11 c11) w5 := h11
  obtain ⟨e11, o11⟩ := slO.arg h11
  have hH := refHead_len p
  obtain ⟨Hd, hHd⟩ : ∃ Hd, refHead p = Hd := ⟨_, rfl⟩
  have hraw : refRaw p = Hd ++ slotsF p.items 512 ++ List.replicate (494 - 2 * p.items.length - lensL p.items) 0 ++ revF p.items := by rw [← hHd]; rfl
  rw [hHd] at e11 o11 hH
  clear h11
  subst e11
  have g5 : Below w.heap.size w w5 := g2.trans ((bel_of (kd.trans k5)).mono (by omega))
  have i5 := up4 k5
  have bb5 := h.below g5
  have sz5 := k5.size
  refine alW_intro ⟨p.items.length + 1, ?_⟩
  have g6 : Below w5.heap.size w5 (w5.alloc (.cells #[] TU8)) := (Below.refl _ _).alloc (Nat.le_refl _) _
  have s6 : (w5.alloc (.cells #[] TU8)).heap.size = w5.heap.size + 1 := Array.size_push _
  obtain ⟨w6, hw6⟩ : ∃ w6, w5.alloc (.cells #[] TU8) = w6 := ⟨_, rfl⟩
  rw [hw6] at g6 s6 ⊢
  have hsl := slotsF_len p.items 512
  have hrl := revF_len p.items
  have hlen := bytesL_len p
  have o6 := o11.keep g6
  have fin := RBytes_l0 (w0 := w) (b := b) (t := TRp) (x0 := p.lsn) (x1 := p.kind.toNat) (x2 := p.extra) (c := c) hp.x hn hu Hd hH (K := fun A63 n63 c63 A64 n64 c64 w65 => ∀ _ : Fr,
    ∃ k79 : Nat, f_ref08_Bytes.l1 k79 A63 n63 c63 A64 n64 c64 w65 (fun (A71 : Option Addr) (n71 : Nat) (c71 : Nat) (w72 : World) => ∀ _ : Fr,
      Calls Tryd.prog 64 #[.slice A71 n71 c71, .slice A64 n64 c64] w72 fun e73 w74 => ∃ (A75 : Option Addr) (n75 : Nat) (c75 : Nat), e73 = .returned (.slice A75 n75 c75) ∧ (
      Calls Tryd.prog 62 #[.slice A75 n75 c75] w74 fun e76 w77 => ∃ (A78 : Option Addr) (n78 : Nat) (c78 : Nat), e76 = .returned (.slice A78 n78 c78) ∧ (
      ∃ A' c', (Ending.returned (.slice A78 n78 c78)) = .returned (.slice A' (bytesL p).length c') ∧ OwnB w77 w.heap.size TU8 A' c' (bytesL p) ∧ Below w.heap.size w w77))))
    p.items.length 0 w6 A11 (some ⟨w5.heap.size, 0, none⟩) c11 0 w.heap.size (by omega) (i5.below g6) (bb5.below g6) (by rw [List.take_zero, slotsF, List.append_nil]; exact o6) (fun w' _ => RB.nil _ _) (Nat.le_refl _) (by omega) (g5.trans (g6.mono (by omega))) fun w7 A3 c3 A4 c4 Bh o7 r7 g7 z7 z8 _ => ?_
  · rw [List.take_zero, slotsF, List.append_nil] at fin
    exact fin
  refine ⟨494 - 2 * p.items.length - lensL p.items + 1, RBytes_l1 (w0 := w) (B := Bh) _ _ w7 A3 c3 (by rw [List.length_append, hsl, hrl, hH]; omega) o7 z8 g7 z7 fun w8 A8 c8 o8 g8 b8 _ => ?_⟩
  have r8 := r7 w8 b8
  have sz8 := b8.size
  refine (Cat_ok o8.reads r8 rfl rfl (by simp only [List.length_append, List.length_replicate, hsl, hrl, hH]; omega)).mono ?_
  rintro _ w9 ⟨A9, c9, rfl, o9, g9⟩
  rw [← hraw] at o9 ⊢
  have sz9 := g9.size
  have e508 : (refRaw p).length = 508 := by rw [hraw]; simp only [List.length_append, List.length_replicate, hsl, hrl, hH]; omega
  refine ⟨_, _, _, rfl, (RSeal_ok o9.reads rfl (by rw [e508]; decide)).mono ?_⟩
  rintro _ w10 ⟨A10, c10', rfl, o10, g10⟩
  rw [refBytes_eq hp] at o10 ⊢
  exact ⟨_, _, _, rfl, _, _, rfl, OwnB.mono o10 (by omega), (g8.trans (g9.mono (by omega))).trans (g10.mono (by omega))⟩
end
end Go.Proofs.YtifambgaekjilaaDoor.Rd
