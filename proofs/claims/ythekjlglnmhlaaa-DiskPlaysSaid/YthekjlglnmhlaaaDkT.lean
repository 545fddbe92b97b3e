/- The statement DiskSafe. Conditions: none. -/
import Derived.Test.YthekjlglnmhlaaaDkS
namespace Go.Proofs.Ythekjlglnmhlaaa.Rd
open Go.Dn Go.RowKit Go.Shelf
set_option linter.unusedVariables false
set_option linter.unusedSimpArgs false
set_option maxRecDepth 100000
theorem piece_sec {l : List Int} (h : l.length ≤ 512) : pieceL (secOf l).1 0 l.length = l := by
  unfold pieceL
  rw [List.drop_zero, secOf_val, List.take_take, Nat.min_eq_left h, List.take_append_of_le_length (Nat.le_refl _), List.take_length]
theorem DiskSafe_walk {w : World} {A0 A2 A3 : Option Addr} {n0 c0 n2 c2 n3 c3 : Nat} {l0 l3 : List DOp} {l2 : List Int} {at_ : Int} (h0 : RDo w w.heap.size A0 l0) (e0 : n0 = l0.length) (h2 : RB w A2 l2) (e2 : n2 = l2.length)
    (b2 : l2 ≠ [] → ∀ a, A2 = some a → a.block < w.heap.size) (hl2 : l2.length ≤ 140737488355328) (h3 : RDo w w.heap.size A3 l3) (e3 : n3 = l3.length) :
    Calls Try.prog 4 #[.slice A0 n0 c0, .int .i64 at_, .slice A2 n2 c2, .slice A3 n3 c3] w fun e w' => e = .returned (.bool true) ∧ Below w.heap.size w w' := by
  subst e0 e2 e3
  apply f_law07_DiskSafe.ok
  unfold f_law07_DiskSafe.wp
  refine (alive_ok w).mono ?_
  rintro _ w1 ⟨rfl, g1⟩
  refine ⟨_, rfl, sel_f rfl ((New_ok w1 8).mono ?_)⟩
  rintro _ w2 ⟨r, rfl, m2, g2⟩
  have s1 := g1.size
  have s2 := g2.size
  have up : ∀ {W : World}, Keeps (fun k => w1.heap.size ≤ k) w2 W → Below w.heap.size w W := fun k => (g1.trans (g2.mono s1)).trans (k.below (by omega) fun i hi e => by omega)
  have kb : Keeps (fun k => w1.heap.size ≤ k) w w2 := ((Keeps.of_below g1).trans (.of_below g2))
  have q0 := (h0.mono s1).keep kb
  have q3 := (h3.mono s1).keep kb
  have rd : ∀ {W : World}, Keeps (fun k => w1.heap.size ≤ k) w2 W → RB W A2 l2 := fun k => by
    by_cases hn : l2 = []
    · rw [hn]; exact RB.nil _ _
    · exact h2.keeps (kb.trans k) fun a ha e => by have := b2 hn a ha; omega
  obtain ⟨D, hD⟩ : ∃ D, r.D = D := ⟨_, rfl⟩
  rw [hD]
  refine ⟨_, rfl, sel_f rfl ⟨_, Safe_l0 (d := newD (nS 8)) (w0 := w2) s2 (fun w3 r3 e3 m3 k3 _ => ?_) l0.length 0 w2 r rfl (by omega) hD m2 (.refl _ _) q0⟩⟩
  intro _
  have s3 := k3.size
  generalize hd3 : doAll (newD (nS 8)) l0 = d3 at m3
  have len3 : d3.safe.length = 8 := by rw [← hd3, doAll_len]; rfl
  refine (BCopy_ok (rd k3) rfl hl2).mono ?_
  rintro _ w4 ⟨A4, c4, rfl, o4, g4⟩
  have m4 := m3.below g4
  have s4 := g4.size
  have k4 := k3.trans (.of_below g4)
  have upF : ∀ {W W' : World} {r : RD} {d : Dk}, DM W w1.heap.size r d → Keeps (FD r) W W' → Keeps (fun k => w1.heap.size ≤ k) W W' := fun h k => k.mono fun i hi ho => (h.lt i ho).2
  subst e3
  refine ⟨_, _, _, rfl, (Write_ok (i := at_) m4 rfl (OwnE.rb o4) (fun a ha hf => by have := (o4.block a ha).1; have := (m3.lt _ hf).1; omega)).mono ?_⟩
  rintro _ w5 ⟨rfl, m5, k5'⟩
  have k5 := k4.trans (upF m4 k5')
  refine ⟨_, rfl, (Sync_ok m5).mono ?_⟩
  rintro _ w6 ⟨rfl, m6, k6'⟩
  have k6 := k5.trans (upF m5 k6')
  refine ⟨_, rfl, ?_⟩
  by_cases x1 : ¬ wrC d3 at_ l2 = 0
  · exact sel_t (by simpa using x1) (sel_t (by simpa using x1) ⟨rfl, up k6⟩)
  have x1 := Decidable.not_not.1 x1
  refine sel_f (by simp [x1]) ?_
  by_cases x2 : ¬ syC (wrD d3 at_ l2) = 0
  · refine sel_t (by simpa using x2) (sel_f (by simp [x1]) ?_)
    rcases syC_cases (wrD d3 at_ l2) with h | h | h
    · exact absurd h x2
    · rw [h]; exact sel_f rfl ⟨rfl, up k6⟩
    · rw [h]; exact sel_t rfl ⟨rfl, up k6⟩
  have x2 := Decidable.not_not.1 x2
  refine sel_f (by simp [x2]) ?_
  obtain ⟨i0, i1, hl, hoff, hI⟩ := wrote x1 x2
  rw [len3] at i1 hI
  refine (Read_ok m6 at_).mono ?_
  rintro _ w7 ⟨⟨A7, n7, c7, y7, rfl, hd⟩, g7⟩
  rcases hd with ⟨hd, _⟩ | ⟨_, hd, _⟩ | ⟨_, _, _, rfl, rfl, rfl, b7, rfl, hb7, H7⟩
  · rw [hoff] at hd; cases hd
  · rw [hI.len] at hd; omega
  rw [hI.has] at H7
  have m7 := m6.below g7
  have k7 := k6.trans (.of_below g7)
  have s7 := k7.size
  refine ⟨_, _, _, _, rfl, _, Safe_l1 (w0 := w7) (n := 8) (s := secOf l2) i0 i1 (by omega) (fun w8 r8 d8 e8 m8 I8 k8 H8 N8 => ?_) l3.length 0 w7 r3 _ rfl (by omega) rfl m7 hI (.refl _ _) (q3.keep k7) H7 (fun hf => by have := (m6.lt _ hf).1; omega)⟩
  intro _
  rw [← e8]
  refine (On0_ok m8).mono ?_
  rintro _ w9 ⟨rfl, m9, k9⟩
  have I9 : Inv 8 at_ (secOf l2) (onD d8 []) := ⟨(kept_len _ _).trans I8.len, by show (kept d8 []).getD _ _ = _; rw [kept_nil]; exact I8.sf, rfl⟩
  have K9 := (k7.trans k8).trans (upF m8 k9)
  refine ⟨rfl, (Read_ok m9 at_).mono ?_⟩
  rintro _ w10 ⟨⟨A10, n10, c10, y10, rfl, hd⟩, g10⟩
  rcases hd with ⟨hd, _⟩ | ⟨_, hd, _⟩ | ⟨_, _, _, rfl, rfl, rfl, b10, rfl, hb10, H10⟩
  · cases hd
  · rw [I9.len] at hd; omega
  rw [I9.has] at H10
  have K10 := K9.trans (.of_below g10)
  have H10' := (H8.keeps k9 N8).below g10
  have r7 := RowE.rb (secRow H10')
  have r10 := RowE.rb (secRow H10)
  have e512 : (secOf l2).1.length = 512 := (secOf l2).2
  refine ⟨_, _, _, _, rfl, sel_t rfl ((BSame_ok (c1 := 512) (c2 := 512) r10 e512.symm r7 e512.symm (by omega)).mono ?_)⟩
  rintro _ w11 ⟨rfl, g11⟩
  have K11 := K10.trans (.of_below g11)
  refine ⟨_, rfl, sel_t (by simp) ((BPiece_ok (p := 0) (q := l2.length) (c := 512) (r10.belw g11) e512.symm (by omega)).mono ?_)⟩
  rintro _ w12 ⟨A12, c12, rfl, o12, g12⟩
  rw [piece_sec hl] at o12 ⊢
  have K12 := K11.trans (.of_below g12)
  refine ⟨_, _, _, rfl, (BSame_ok (OwnE.rb o12) rfl (rd K12) rfl hl2).mono ?_⟩
  rintro _ w13 ⟨rfl, g13⟩
  exact ⟨_, rfl, by simp, up (K12.trans (.of_below g13))⟩
end Go.Proofs.Ythekjlglnmhlaaa.Rd
