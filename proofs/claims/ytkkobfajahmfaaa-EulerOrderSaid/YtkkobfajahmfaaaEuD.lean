/- The inner calls of a rope, walked: pull, merge, split, free, root, index. Conditions: none. -/
import Derived.Test.YtkkobfajahmfaaaEuC
import Derived.Test.YtkkobfajahmfaaaHBw
namespace Go.Proofs.Ytkkobfajahmfaaa.Rd
open Go.Dn Go.RowKit
set_option linter.unusedVariables false
set_option maxRecDepth 100000

theorem cnew (w : World) (cs : Array Value) (t j : Nat) : (w.alloc (.cells cs t)).cell? ((⟨w.heap.size, 0, none⟩ : Addr).add j) = cs[j]? := by rw [add_mk, Nat.zero_add, World.cell?_alloc_new]
theorem cold {w : World} {o : Obj} {a : Addr} {v : Value} (h : w.cell? a = some v) : (w.alloc o).cell? a = some v := by rw [World.cell?_alloc_lt _ _ _ (World.block_lt_of_cell? w _ h)]; exact h
theorem wr_new (w : World) (cs : Array Value) (t j : Nat) (hj : j < cs.size) : Wr (w.alloc (.cells cs t)) ((⟨w.heap.size, 0, none⟩ : Addr).add j) := by
  refine ⟨⟨cs[j], by rw [cnew, Array.getElem?_eq_getElem hj]⟩, ?_⟩
  rw [add_mk, frozen_of_row _ _ _ _ _ (heap_alloc_new w _)]
theorem wr_set {w : World} {a b : Addr} {v : Value} (h : Wr w a) : Wr (w.setCell b v) a := by
  obtain ⟨⟨u, hu⟩, hf⟩ := h
  refine ⟨?_, by rw [World.frozen?_setCell]; exact hf⟩
  by_cases e : b = a
  · subst e; exact ⟨v, World.cell?_setCell_same _ _ _ hu⟩
  · exact ⟨u, by rw [World.cell?_setCell_other _ _ _ _ e]; exact hu⟩
theorem ne_off {b i j : Nat} (h : i ≠ j) : (⟨b, 0, none⟩ : Addr).add i ≠ (⟨b, 0, none⟩ : Addr).add j := by rw [add_mk, add_mk]; simp [h]
theorem Plus_ok (a b c d e f : Int) (w : World) : Calls Try.prog 116 #[.agg #[.int .i64 a, .int .i64 b, .int .i64 c], .agg #[.int .i64 d, .int .i64 e, .int .i64 f]] w fun en w' =>
    en = .returned (.agg #[.int .i64 (IntKind.i64.wrap (a + d)), .int .i64 (IntKind.i64.wrap (b + e)), .int .i64 (IntKind.i64.wrap (c + f))]) ∧ Below w.heap.size w w' := by
  apply f_euler_load_Plus.ok
  unfold f_euler_load_Plus.wp
  refine al_new fun w1 b1 e1 s1 h1 g1 => al_new fun w2 b2 e2 s2 h2 g2 => al_new fun w3 b3 e3 s3 h3 g3 => ?_
  have h1 := (h1.below g2).below g3
  have h2 := h2.below g3
  refine hb_ldI0 h1 rfl (hb_ldI0 h2 rfl (hb_ldI (j := 1) h1 rfl (hb_ldI (j := 1) h2 rfl (hb_ldI (j := 2) h1 rfl (hb_ldI (j := 2) h2 rfl ?_)))))
  refine hb_st0 h3 (by simp) fun w4 h4 k4 => hb_st (j := 1) h4 (by simp) fun w5 h5 k5 => hb_st (j := 2) h5 (by simp) fun w6 h6 k6 => ?_
  refine hb_ldI0 h6 rfl (hb_ldI (j := 1) h6 rfl (hb_ldI (j := 2) h6 rfl ⟨rfl, ?_⟩))
  have g : Below w.heap.size w w3 := (g1.trans (g2.mono (by omega))).trans (g3.mono (by omega))
  exact g.trans (((k4.trans k5).trans k6).below g.size fun i hi e => by omega)

/-- what a call on a rope leaves -/
def Aft (r : RC) (w w' : World) (N : Nat → Nat → Int) : Prop := Rp w' r N ∧ Keeps (Sr r) w w'
theorem pull_j0 {w : World} {r : RC} {N : Nat → Nat → Int} (h : Rp w r N) {a x : Nat} (ha : a < r.n) (hx : x < r.n) (h1 : N a 1 = (x : Int)) {Kn : World → Prop} {a' : Int} (ea : a' = (a : Int))
    (hk : ∀ w', Aft r w w' (pullR N a x) → Kn w') : f_euler_load_pull.j0 ⟨r.R, 0, none⟩ a' ((⟨r.g, 0, none⟩ : Addr).add (a'.toNat * 11)) w Kn := by
  unfold f_euler_load_pull.j0
  refine nd_ld (j := 1) h ha ea (by omega) ?_
  by_cases h0 : x = 0
  · subst h0
    refine sel_f (by rw [h1]; simp) (hk _ ?_)
    have : pullR N a 0 = N := by simp [pullR]
    rw [this]; exact ⟨h, Keeps.refl _ _⟩
  · refine sel_t (by rw [h1]; simp; omega) (drW_intro ?_)
    rw [h1]
    have hd := h.drew
    refine nd_ld (j := 4) hd ha ea (by omega) (nd_rd (j := 4) hd hx rfl (by omega) (nd_st (j := 4) hd ha ea (by omega) fun w2 h2 k2 => drW_intro ?_))
    refine ⟨fun w' => Rp w' r (Dn.st N a 4 (IntKind.i64.wrap (N a 4 + N x 4))), h2.drew, ?_⟩
    refine ⟨_, fun w' h' => h'.cell (j := 8) ha ea (by omega), _, fun w' h' => by rw [add_add]; exact h'.cell (j := 9) ha ea (by omega), _, fun w' h' => by rw [add_add]; exact h'.cell (j := 10) ha ea (by omega), ?_⟩
    refine ⟨_, _, _, fun w' h' => h'.sl0, optB_some rfl (req_intro (by simp; omega) ?_)⟩
    refine ⟨_, fun w' h' => h'.cell (j := 8) hx rfl (by omega), _, fun w' h' => by rw [add_add]; exact h'.cell (j := 9) hx rfl (by omega), _, fun w' h' => by rw [add_add]; exact h'.cell (j := 10) hx rfl (by omega), ?_⟩
    refine (Plus_ok _ _ _ _ _ _ _).mono ?_
    rintro e w3 ⟨rfl, b3⟩
    have h3 := h2.drew.below b3
    refine ⟨_, _, _, rfl, h3, ?_⟩
    refine nd_st (j := 8) h3 ha ea (by omega) fun w4 h4 k4 => ?_
    rw [add_add]
    refine nd_st (j := 9) h4 ha ea (by omega) fun w5 h5 k5 => ?_
    rw [add_add]
    refine nd_st (j := 10) h5 ha ea (by omega) fun w5' h5' k5' => ?_
    refine nd_at (K := fun a => stW w5' ((a.add _).add 2) _ _) h5' hx rfl (nd_st (j := 2) h5' hx rfl (by omega) fun w6 h6 k6 => hk _ ⟨?_, ?_⟩)
    · have e : pullR N a x = Dn.st (Dn.st (Dn.st (Dn.st (Dn.st N a 4 (IntKind.i64.wrap (N a 4 + N x 4))) a 8 (IntKind.i64.wrap (N a 8 + N x 8))) a 9 (IntKind.i64.wrap (N a 9 + N x 9))) a 10 (IntKind.i64.wrap (N a 10 + N x 10))) x 2 a := by simp [pullR, h0]
      rw [e, ← ea]
      simpa [st_j] using h6
    · exact ((Keeps.of_below (Below.refl _ _).drew).trans (((k2.drew.trans (.of_below b3)).trans k4).trans (k5.trans (k5'.trans k6))))
theorem pull_ok {w : World} {r : RC} {N : Nat → Nat → Int} (h : Rp w r N) {a l x : Nat} (ha : a < r.n) (hl : l < r.n) (hx : x < r.n) (h0 : N a 0 = (l : Int)) (h1 : N a 1 = (x : Int)) (hla : l ≠ 0 → l ≠ a) :
    Calls Try.prog 75 #[.pointer (some ⟨r.R, 0, none⟩), .int .i64 (a : Int)] w fun e w' => e = .returned (.tuple #[]) ∧ Aft r w w' (pullF N a l x) := by
  apply f_euler_load_pull.ok
  unfold f_euler_load_pull.wp
  refine nd_at (K := fun a2 => ldI w ((a2.add _).add 5) .i64 _) h ha rfl ?_
  refine nd_ld (j := 5) h ha rfl (by omega) ?_
  rw [add_add _ 5 1]
  refine nd_ld (j := 6) h ha rfl (by omega) ?_
  rw [add_add _ 5 2]
  refine nd_ld (j := 7) h ha rfl (by omega) ?_
  refine nd_st (j := 4) h ha rfl (by omega) fun w1 h1' k1 => nd_st (j := 8) h1' ha rfl (by omega) fun w2 h2 k2 => ?_
  rw [add_add _ 8 1]
  refine nd_st (j := 9) h2 ha rfl (by omega) fun w3' h3' k3' => ?_
  rw [add_add _ 8 2]
  refine nd_st (j := 10) h3' ha rfl (by omega) fun w3 h3 k3 => nd_ld0 h3 ha rfl ?_
  have h3 : Rp w3 r (pull0 N a) := h3
  have k3 : Keeps (Sr r) w w3 := ((k1.trans k2).trans k3').trans k3
  have p0 : Dn.st (Dn.st (Dn.st (Dn.st N a 4 1) a 8 (N a 5)) a 9 (N a 6)) a 10 (N a 7) a 0 = (l : Int) := by simp [Dn.st]; exact h0
  have p1 : pull0 N a a 1 = (x : Int) := by simp [pull0, Dn.st]; exact h1
  rw [p0]
  generalize hN : pull0 N a = M at *
  by_cases l0 : l = 0
  · subst l0
    refine sel_f (by simp) (pull_j0 h3 ha hx p1 rfl fun w' h' _ => ⟨rfl, ?_⟩)
    have : pullF N a 0 x = pullR M a x := by simp [pullF, pullL, hN]
    rw [this]; exact ⟨h'.1, k3.trans h'.2⟩
  · refine sel_t (by simp; omega) (drW_intro ?_)
    have hd := h3.drew
    refine nd_ld (j := 4) hd ha rfl (by omega) (nd_rd (j := 4) hd hl rfl (by omega) (nd_st (j := 4) hd ha rfl (by omega) fun w4 h4 k4 => drW_intro ?_))
    refine ⟨fun w' => Rp w' r (Dn.st M a 4 (IntKind.i64.wrap (M a 4 + M l 4))), h4.drew, ?_⟩
    refine ⟨_, _, _, fun w' h' => h'.sl0, optB_some rfl (req_intro (by simp; omega) ?_)⟩
    refine ⟨_, fun w' h' => h'.cell (j := 8) hl rfl (by omega), _, fun w' h' => by rw [add_add]; exact h'.cell (j := 9) hl rfl (by omega), _, fun w' h' => by rw [add_add]; exact h'.cell (j := 10) hl rfl (by omega), ?_⟩
    refine ⟨_, fun w' h' => h'.cell (j := 8) ha rfl (by omega), _, fun w' h' => h'.cell (j := 9) ha rfl (by omega), _, fun w' h' => h'.cell (j := 10) ha rfl (by omega), ?_⟩
    refine (Plus_ok _ _ _ _ _ _ _).mono ?_
    rintro e w5 ⟨rfl, b5⟩
    have h5 := h4.drew.below b5
    refine ⟨_, _, _, rfl, h5, ?_⟩
    refine nd_st (j := 8) h5 ha rfl (by omega) fun w6 h6 k6 => ?_
    refine nd_st (j := 9) h6 ha rfl (by omega) fun w7' h7' k7' => ?_
    refine nd_st (j := 10) h7' ha rfl (by omega) fun w7 h7 k7 => ?_
    refine nd_at (K := fun a => stW w7 ((a.add _).add 2) _ _) h7 hl rfl (nd_st (j := 2) h7 hl rfl (by omega) fun w8 h8 k8 => ?_)
    have e : pullL M a l = Dn.st (Dn.st (Dn.st (Dn.st (Dn.st M a 4 (IntKind.i64.wrap (M a 4 + M l 4))) a 8 (IntKind.i64.wrap (M l 8 + M a 8))) a 9 (IntKind.i64.wrap (M l 9 + M a 9))) a 10 (IntKind.i64.wrap (M l 10 + M a 10))) l 2 a := by simp [pullL, l0]
    have h8 : Rp w8 r (pullL M a l) := by rw [e]; simpa [st_j] using h8
    have k8 : Keeps (Sr r) w w8 := k3.trans ((Keeps.of_below (Below.refl _ _).drew).trans (((k4.drew.trans (.of_below b5)).trans k6).trans (k7'.trans (k7.trans k8))))
    have q1 : pullL M a l a 1 = (x : Int) := by rw [e]; simp [st]; exact p1
    refine pull_j0 h8 ha hx q1 rfl fun w' h' _ => ⟨rfl, ?_⟩
    have : pullF N a l x = pullR (pullL M a l) a x := by simp [pullF, hN]
    rw [this]; exact ⟨h'.1, k8.trans h'.2⟩
end Go.Proofs.Ytkkobfajahmfaaa.Rd
