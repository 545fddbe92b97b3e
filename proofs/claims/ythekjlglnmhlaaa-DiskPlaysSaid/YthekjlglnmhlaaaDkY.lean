/- The statement DiskLoad. Conditions: none. -/
import Derived.Test.YthekjlglnmhlaaaDkX
namespace Go.Proofs.Ythekjlglnmhlaaa.Rd
open Go.Dn Go.RowKit Go.Shelf
set_option linter.unusedVariables false
set_option linter.unusedSimpArgs false
set_option maxRecDepth 100000
theorem OwnE.cap' {α : Type} {enc : α → List Value} {k : Nat} {w : World} {B e : Nat} {A : Option Addr} {c : Nat} {l : List α} (h : OwnE enc k w B e A c l) : l.length ≤ c := by
  obtain ⟨_, h⟩ := h
  rcases h with ⟨h1, h2⟩ | ⟨g, cap, cur, hv, hg, hh, hn, hm, hs, ht⟩
  · injection h1 with h1 h4 h3; omega
  · injection hv with hA h4 hc; omega
theorem DiskLoad_row {w : World} {A0 A1 : Option Addr} {c0 c1 : Nat} {l0 l1 : List DOp} (h0 : RDo w w.heap.size A0 l0) (h1 : RDo w w.heap.size A1 l1) :
    Calls Try.prog 5 #[.slice A0 l0.length c0, .slice A1 l1.length c1] w fun e w' => e = .returned (.bool true) ∧ Below w.heap.size w w' := by
  apply f_law07_DiskLoad.ok
  unfold f_law07_DiskLoad.wp
  refine (alive_ok w).mono ?_
  rintro _ w1 ⟨rfl, g1⟩
  refine ⟨_, rfl, sel_f rfl ((New_ok w1 5).mono ?_)⟩
  rintro _ w2 ⟨r, rfl, m2, g2⟩
  have s1 := g1.size
  have s2 := g2.size
  have up : ∀ {W : World}, Keeps (fun k => w1.heap.size ≤ k) w2 W → Below w.heap.size w W := fun k => (g1.trans (g2.mono s1)).trans (k.below (by omega) fun i hi e => by omega)
  have kb : Keeps (fun k => w1.heap.size ≤ k) w w2 := ((Keeps.of_below g1).trans (.of_below g2))
  have q0 := (h0.mono s1).keep kb
  have q1 := (h1.mono s1).keep kb
  obtain ⟨D, hD⟩ : ∃ D, r.D = D := ⟨_, rfl⟩
  rw [hD]
  refine ⟨_, rfl, sel_f rfl ⟨_, Load_l0' (d := newD (nS 5)) (w0 := w2) s2 (fun w3 r3 e3 m3 k3 _ => ?_) l0.length 0 w2 r rfl (by omega) hD m2 (.refl _ _) q0⟩⟩
  intro _
  have s3 := k3.size
  generalize hd3 : doAll (newD (nS 5)) l0 = d3 at m3
  have len3 : d3.safe.length = 5 := by rw [← hd3, doAll_len]; rfl
  subst e3
  refine (Plan_ok m3 (A := none) (n := 0) (c := 0) (fs := []) (RowE.nil _ _ _ _) rfl (fun _ => ⟨rfl, rfl⟩) (by simp) (by omega)).mono ?_
  rintro _ w4 ⟨rfl, P, pc, m4, k4, f4⟩
  have K4 : Keeps (fun k => w1.heap.size ≤ k) w2 w4 := k3.trans (k4.mono fun i hi e => by rw [e]; exact m3.lo.1)
  generalize hr4 : ({ r3 with P := P, pc := pc } : RD) = r4 at m4
  generalize hd4 : ({ d3 with plan := [] } : Dk) = d4 at m4
  have eD : r3.D = r4.D := by rw [← hr4]
  rw [eD]
  have len4 : d4.safe.length = 5 := by rw [← hd4]; exact len3
  have pl4 : d4.plan = [] := by rw [← hd4]
  refine ⟨rfl, (Loose_ok m4).mono ?_⟩
  rintro _ w5 ⟨A5, c5, rfl, o5, g5⟩
  have m5 := m4.below g5
  have hlo := (bytes_le m4).2.2
  refine ⟨_, _, _, rfl, (On_ok m5 (OwnI.reads o5) rfl (fun a ha hf => by have := OwnI.e' o5 a ha; have := (m4.lt _ (.inr (.inr (.inl hf)))).1; omega) (by omega)).mono ?_⟩
  rintro _ w6 ⟨rfl, m6, k6⟩
  have K6 := (K4.trans (.of_below g5)).trans (k6.mono (S' := fun k => w1.heap.size ≤ k) fun i hi ho => (m5.lt i ho).2)
  have all6 := onD_all d4 (looseD d4)
  generalize hd6 : onD d4 (looseD d4) = d6 at m6 all6
  have len6 : d6.safe.length = 5 := by rw [← hd6]; exact (kept_len _ _).trans len4
  have pe6 : d6.pend = [] := by rw [← hd6]; rfl
  have fr6 : Free d6 := ⟨by rw [← hd6]; exact pl4, by rw [← hd6]; rfl⟩
  refine ⟨rfl, (All_ok m6).mono ?_⟩
  rintro _ w7 ⟨A7, c7, rfl, o7, g7⟩
  have m7 := m6.below g7
  rw [all6] at o7 ⊢
  refine ⟨_, _, _, rfl, (Load_ok (OwnE.rb o7) rfl (by rw [bytesOf_len]; omega) (OwnE.cap' o7) (fun a ha _ => (o7.block a ha).2)).mono ?_⟩
  rintro _ w8 ⟨r', rfl, x8, g8⟩
  rw [loadD_bytes (by omega)] at x8
  have m8 := m7.below g8
  have K8 := (K6.trans (.of_below g7)).trans (.of_below g8)
  have s8 := K8.size
  have s78 := g8.size
  have s67 := K6.size
  have s7' := g7.size
  have dis : ∀ k, FD r4 k → ¬ FD r' k := fun k hk hf => by have := (m7.lt k hk).1; have := (x8.lt k hf).2; omega
  refine ⟨_, rfl, sel_f rfl ((Size_ok x8).mono ?_)⟩
  rintro _ w8 ⟨rfl, rfl⟩
  refine ⟨_, rfl, sel_f (by simp [len6]) ((Steps_ok x8).mono ?_)⟩
  rintro _ w8 ⟨rfl, rfl⟩
  refine ⟨_, rfl, sel_f rfl ⟨_, Load_l1 (w0 := w8) (B := w1.heap.size) (Bx := w7.heap.size) (by omega) s78 (by omega) (fun w9 r9 d9 r9' x9 e9 e9' h9 hx9 dis9 k9 => ?_) l1.length 0 w8 r4 d6 r' _ rfl (by omega) rfl rfl m8 x8 dis ⟨rfl, pe6, fr6, ⟨rfl, rfl⟩⟩ (.refl _ _) (q1.keep K8)⟩⟩
  intro _
  rw [← e9, ← e9']
  have K9 := K8.trans k9
  refine (All_ok hx9).mono ?_
  rintro _ w10 ⟨A10, c10, rfl, o10, g10⟩
  have h10 := h9.below g10
  have hx10 := hx9.below g10
  refine ⟨_, _, _, rfl, lit_b (l := [111, 116, 104, 101, 114]) rfl fun b11 w11 e11 r11 g11 z11 => ?_⟩
  have h11 := h10.below g11
  have hx11 := hx10.below g11
  refine ⟨_, _, _, rfl, (Write_ok (i := 0) (n := 5) (c := 5) h11 rfl r11 (fun a ha hf => by injection ha with ha; subst ha; have := (h10.lt _ hf).1; simp at this; omega)).mono ?_⟩
  rintro _ w12 ⟨rfl, h12, k12⟩
  have hx12 := hx11.keeps k12 fun b hb hf => dis9 b hf hb
  have r12 : RB w12 A10 (bytesOf (allD x9)) := ((OwnE.rb o10).belw g11).keeps k12 fun a ha hf => by have := (o10.block a ha).1; have := (h9.lt _ hf).1; omega
  refine ⟨_, rfl, (All_ok hx12).mono ?_⟩
  rintro _ w13 ⟨A13, c13, rfl, o13, g13⟩
  refine ⟨_, _, _, rfl, (BSame_ok (OwnE.rb o13) rfl (r12.belw g13) rfl (bytes_le hx9).1).mono ?_⟩
  rintro _ w14 ⟨rfl, g14⟩
  refine ⟨_, rfl, by simp, up ?_⟩
  exact ((((K9.trans (.of_below g10)).trans (.of_below g11)).trans (k12.mono (S' := fun k => w1.heap.size ≤ k) fun i hi ho => (h11.lt i ho).2)).trans (.of_below g13)).trans (.of_below g14)
end Go.Proofs.Ythekjlglnmhlaaa.Rd
