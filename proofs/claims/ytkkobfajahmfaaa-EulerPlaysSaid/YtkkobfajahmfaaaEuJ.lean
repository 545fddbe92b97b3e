/- The calls of a rope, walked: List, Make, New. Conditions: none. -/
import Derived.Test.YtkkobfajahmfaaaEuI
namespace Go.Proofs.Ytkkobfajahmfaaa.Rd
open Go.Dn Go.RowKit
set_option linter.unusedVariables false
set_option maxRecDepth 100000

theorem TIn : IntTy Try.prog 22 3 := ⟨by kernel_rfl, by kernel_rfl⟩
def zs (l : List Nat) : List Int := l.map fun (i : Nat) => (i : Int)
theorem zs_len (l : List Nat) : (zs l).length = l.length := by simp [zs]
theorem zs_app (l m : List Nat) : zs (l ++ m) = zs l ++ zs m := by simp [zs]

/-! ### List -/
def fSlv (A : Option Addr) (n c : Nat) (v : Value) : Prop := v = .slice A n c
def fPtr (a : Addr) (v : Value) : Prop := v = .pointer (some a)
def fInt (x : Int) (v : Value) : Prop := v = .int .i64 x
def fOwn (B : Nat) (l : List Int) (v : Value) (w : World) : Prop := ∃ A c, v = .slice A l.length c ∧ OwnI w B 3 A c l ∧ (l = [] → A = none)
def fOne (x : Int) (v : Value) (w : World) : Prop := ∃ b, v = .slice (some ⟨b, 0, none⟩) 1 1 ∧ w.heap[b]? = some (Obj.cells #[.int .i64 x] 3)
def fW (r : RC) (B : Nat) (a : Nat) (lo hi : Nat) (l0 l1 l2 : List Int) (i : Nat) (v : Value) (w : World) : Prop := match i with
  | 4 => fSlv (some ⟨r.g, 0, none⟩) r.n r.c v | 13 => fSlv (some ⟨r.g, 0, none⟩) r.n r.c v
  | 6 => fPtr ((⟨r.g, 0, none⟩ : Addr).add (a * 11)) v | 15 => fPtr ((⟨r.g, 0, none⟩ : Addr).add (a * 11)) v
  | 8 => fInt (hi : Int) v | 17 => fInt (lo : Int) v
  | 19 => fOwn B l0 v w | 21 => fOne (a : Int) v w | 22 => fOwn B l1 v w | 23 => fOwn B l2 v w
  | _ => True
theorem fOwn.keep {B : Nat} {full l : List Int} {v : Value} {w w' : World} (h : fOwn B l v w) (hp : l <+: full) (k : Pre B 3 full w w') : fOwn B l v w' := by
  obtain ⟨A, c, e, ho, h0⟩ := h
  exact ⟨A, c, e, k.row _ _ _ hp ho, h0⟩
theorem fW.keep {r : RC} {B a lo hi : Nat} {full l0 l1 l2 : List Int} {i : Nat} {v : Value} {w w' : World} (h : fW r B a lo hi l0 l1 l2 i v w) (k : Pre B 3 full w w') (h0 : l0 <+: full) (h1 : l1 <+: full) (h2 : l2 <+: full) : fW r B a lo hi l0 l1 l2 i v w' := by
  unfold fW at h ⊢
  split at h <;> first | exact fOwn.keep h h0 k | exact fOwn.keep h h1 k | exact fOwn.keep h h2 k | exact h | skip
  · obtain ⟨b, e, hb⟩ := h; exact ⟨b, e, k.one _ _ hb⟩
theorem walk_ok {r : RC} {B : Nat} {full : List Int} (hfull : full.length ≤ 17592186044416) : ∀ {t : Tr} {w : World} {N : Nat → Nat → Int} {A : Option Addr} {c : Nat} {l : List Int}, (∀ w', Below B w w' → Rp w' r N) → B ≤ w.heap.size → OkT N r.n t → 0 < r.n → OwnI w B 3 A c l → (l = [] → A = none) → l ++ zs t.ids <+: full →
    Calls Try.prog 77 #[.pointer (some ⟨r.R, 0, none⟩), .int .i64 (t.root : Int), .slice A l.length c] w fun e w' => ∃ v, e = .returned v ∧ fOwn B (l ++ zs t.ids) v w' ∧ Pre B 3 full w w'
  | .nil, w, N, A, c, l, hp, hB, ok, hn, ho, h0, hl => by
    apply f_euler_load_walk.ok
    unfold f_euler_load_walk.wp
    refine sel_t rfl ⟨_, rfl, ⟨A, c, ?_, ?_, ?_⟩, Pre.refl _ _ _ _⟩
    · simp [Tr.ids, zs]
    · simpa [Tr.ids, zs] using ho
    · simpa [Tr.ids, zs] using h0
  | .node lt a rt, w, N, A, c, l, hp, hB, ok, hn, ho, h0, hl => by
    obtain ⟨a1, a2, a3, a4, a5, a6, a7, a7b, a8, a9, al, ar⟩ := ok
    apply f_euler_load_walk.ok
    unfold f_euler_load_walk.wp
    refine sel_f (by simp [Tr.root]; omega) (drW_intro ?_)
    have ef : l ++ zs (Tr.node lt a rt).ids = ((l ++ zs lt.ids) ++ [(a : Int)]) ++ zs rt.ids := by simp [Tr.ids, zs]
    rw [ef] at hl
    have p1 : (l ++ zs lt.ids) ++ [(a : Int)] <+: full := (List.prefix_append _ _).trans hl
    have p0 : l ++ zs lt.ids <+: full := (List.prefix_append _ _).trans p1
    have pl : l <+: full := (List.prefix_append _ _).trans p0
    have bd : Below B w w.drew := (Below.refl _ _).drew
    have hB1 : B ≤ w.drew.heap.size := hB
    have hp1 : ∀ w', Below B w.drew w' → Rp w' r N := fun w' b => hp w' (bd.trans b)
    have ho1 : OwnI w.drew B 3 A c l := ho.keeps (S := fun _ => False) (Keeps.refl _ _).drew (fun _ _ => id)
    have fin : ∀ {w' : World} {v : Value}, Pre B 3 full w.drew w' → fOwn B (l ++ zs lt.ids ++ [(a : Int)] ++ zs rt.ids) v w' → ∃ v', Ending.returned v = .returned v' ∧ fOwn B (l ++ zs (Tr.node lt a rt).ids) v' w' ∧ Pre B 3 full w w' :=
      fun {w' v} k h => ⟨v, rfl, by rw [ef]; exact h, (Pre.of_below (w := w) (Below.refl _ _).drew hB).trans k⟩
    generalize w.drew = w1 at *
    have hsz : ∀ w', Pre B 3 full w1 w' → B ≤ w'.heap.size := fun w' k => Nat.le_trans hB1 k.bel.size
    refine ⟨f_euler_load_walk.h3_ok .., fun x y => Pre B 3 full x y, fW r B a lt.root rt.root (l ++ zs lt.ids) (l ++ zs lt.ids ++ [(a : Int)]) (l ++ zs lt.ids ++ [(a : Int)] ++ zs rt.ids), fun _ => Pre.refl _ _ _ _, fun x y z h1 h2 => h1.trans h2, fun i v x y _ h1 h2 => fW.keep h2 h1 p0 p1 hl, ?_, ?_⟩
    · refine ⟨fun _ w4 g => ldS_intro (hp1 w4 g.bel).sl0 ⟨Pre.refl _ _ _ _, rfl⟩, ?_⟩
      refine ⟨fun _ w6 g A4 n4 c4 f4 => ?_, ?_⟩
      · injection f4 with e1 e2 e3; subst e1; subst e2; subst e3
        exact optB_some rfl (req_intro (by simp [Tr.root]; omega) ⟨Pre.refl _ _ _ _, by simp [fW, fPtr, Tr.root]⟩)
      refine ⟨fun _ w8 g A4 n4 c4 f4 a6 f6 => ?_, ?_⟩
      · injection f6 with f6; injection f6 with f6; subst f6
        refine ldI_intro (x := (rt.root : Int)) ?_ ⟨Pre.refl _ _ _ _, rfl⟩
        have := (hp1 w8 g.bel).cell (j := 1) a2 rfl (by omega)
        rw [Int.toNat_natCast, a4] at this; exact this
      refine ⟨fun _ w4 g => ldS_intro (hp1 w4 g.bel).sl0 ⟨Pre.refl _ _ _ _, rfl⟩, ?_⟩
      refine ⟨fun _ w6 g A4 n4 c4 f4 => ?_, ?_⟩
      · injection f4 with e1 e2 e3; subst e1; subst e2; subst e3
        exact optB_some rfl (req_intro (by simp [Tr.root]; omega) ⟨Pre.refl _ _ _ _, by simp [fW, fPtr, Tr.root]⟩)
      refine ⟨fun _ w8 g A4 n4 c4 f4 a6 f6 => ?_, ?_⟩
      · injection f6 with f6; injection f6 with f6; subst f6
        refine ldI_intro (x := (lt.root : Int)) ?_ ⟨Pre.refl _ _ _ _, rfl⟩
        have := (hp1 w8 g.bel).cell0 a2 rfl
        rw [Int.toNat_natCast, a3] at this; exact this
      refine ⟨fun _ w16 g A4 n4 c4 f4 a6 f6 x17 f17 => ?_, ?_⟩
      · injection f17 with _ f17; subst f17
        refine (walk_ok hfull (N := N) (fun w' b => hp1 w' (g.bel.trans b)) (hsz w16 g) al hn (g.row _ _ _ pl ho1) h0 p0).mono ?_
        rintro e w18 ⟨v, rfl, ⟨A', c', rfl, q⟩, k⟩
        exact ⟨_, _, _, rfl, k, ⟨A', c', rfl, q⟩⟩
      refine ⟨fun _ w20 g => alW_intro ⟨Pre.of_below (bal _ _) (hsz w20 g), _, rfl, heap_alloc_new _ _⟩, ?_⟩
      refine ⟨fun _ w23 g A13 n13 c13 f13 a15 f15 x17 f17 A19 n19 c19 f19 A21 n21 c21 f21 => ?_, ?_⟩
      · obtain ⟨A', c', e, ho', h0'⟩ := f19
        injection e with e1 e2 e3; subst e1; subst e2; subst e3
        obtain ⟨b, e, hb⟩ := f21
        injection e with e1 e2 e3; subst e1; subst e2; subst e3
        refine appI_pre TIn ho' rfl h0' (x := (a : Int)) (by rw [cell_of_row _ _ _ _ _ _ hb]; rfl) (hsz w23 g) p1 hfull fun A' c' w' ho2 k => ?_
        exact ⟨_, _, _, rfl, k, A', c', rfl, ho2, fun e => by simp at e⟩
      refine ⟨?_, trivial⟩
      intro _ w27 g A4 n4 c4 f4 a6 f6 xe8 f8 A13 n13 c13 f13 a15 f15 x17 f17 A19 n19 c19 f19 A21 n21 c21 f21 A22 n22 c22 f22
      injection f8 with _ f8; subst f8
      obtain ⟨A', c', e, ho', h0'⟩ := f22
      injection e with e1 e2 e3; subst e1; subst e2; subst e3
      refine (walk_ok hfull (N := N) (fun w' b => hp1 w' (g.bel.trans b)) (hsz w27 g) ar hn ho' h0' hl).mono ?_
      rintro e w18 ⟨v, rfl, ⟨A', c', rfl, q⟩, k⟩
      exact ⟨_, _, _, rfl, k, ⟨A', c', rfl, q⟩⟩
    · intro w31 g
      intros
      rename_i f23
      exact fin g f23
def listE (n : Nat) (rows : List (List Nat)) (a : Int) : List Nat × Int := if Bd n a then ([], 150) else (rowOf rows a.toNat, 0)
theorem List_ok {w : World} {r : RC} {rows : List (List Nat)} {V : Nat → Int × Int × Int} (h : Rope w r rows V) (a : Int) :
    Calls Try.prog 60 #[.pointer (some ⟨r.R, 0, none⟩), .int .i64 a] w fun e w' => ∃ A c, e = .returned (.tuple #[.slice A (listE r.n rows a).1.length c, .int .i64 (listE r.n rows a).2]) ∧ OwnI w' w.heap.size 3 A c (zs (listE r.n rows a).1) ∧ Below w.heap.size w w' := by
  obtain ⟨N, ts, hp, hf⟩ := h
  apply f_euler_load_List.ok
  unfold f_euler_load_List.wp
  refine alW_intro ((bad1 hp a).mono ?_)
  rintro e w1 ⟨rfl, rfl⟩
  refine ⟨_, rfl, ?_⟩
  have hp1 := hp.alloc (.cells #[.int .i64 a] 3)
  have b1 := bal w (.cells #[.int .i64 a] 3)
  generalize w.alloc (.cells #[.int .i64 a] 3) = w1 at *
  cases hb : Bd r.n a with
  | true => exact sel_t rfl ⟨none, 0, by simp [listE, hb], by simpa [listE, hb, zs] using OwnI.none _ _ _, b1⟩
  | false =>
    obtain ⟨x, rfl, ex, hx⟩ := Bd_nat hb
    obtain ⟨s, hs, xs, es, os, us, ns⟩ := hf.tree hx
    refine sel_f rfl ((root_ok hp1 os us xs).mono ?_)
    rintro e w1 ⟨rfl, rfl⟩
    have hlen := nodup_le r.n s.ids ns fun i hi => (os.lt i hi).2
    have hle := hf.le
    refine ⟨_, rfl, (walk_ok (full := [] ++ zs s.ids) (l := []) (B := w.heap.size) (by simp [zs_len]; omega) (fun w' b => hp.below (b1.trans b)) b1.size os hf.pos (OwnI.none _ _ _) (fun _ => rfl) (List.prefix_refl _)).mono ?_⟩
    rintro e w2 ⟨v, rfl, ⟨A, c, rfl, ho, h0⟩, k⟩
    rw [List.nil_append] at ho
    refine ⟨_, _, _, rfl, A, c, ?_, ?_, b1.trans k.bel⟩
    · simp only [listE, hb, Bool.false_eq_true, if_false, ex, ← es, List.nil_append, zs_len]
    · simp only [listE, hb, Bool.false_eq_true, if_false, ex, ← es]; exact ho
end Go.Proofs.Ytkkobfajahmfaaa.Rd
