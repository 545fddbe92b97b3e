/- The calls of a rope, walked: At, Seek, List, each on rows. Conditions: none. -/
import Derived.Test.YtkkobfajahmfaaaEuH
namespace Go.Proofs.Ytkkobfajahmfaaa.Rd
open Go.Dn Go.RowKit
set_option linter.unusedVariables false
set_option maxRecDepth 100000

/-! ### At -/
def atE (n : Nat) (rows : List (List Nat)) (a i : Int) : Int × Int := if Bd n a then (0, 150) else if i < 0 ∨ i ≥ ((rowOf rows a.toNat).length : Int) then (0, 1) else (((rowOf rows a.toNat).getD i.toNat 0 : Int), 0)
theorem at_j1 {w : World} {r : RC} {N : Nat → Nat → Int} (h : Rp w r N) (hn : r.n ≤ 65537) (hz : N 0 4 = 0) {l y : Tr} {x i : Nat} (ok : OkT N r.n (.node l x y)) (nd : (Tr.node l x y).ids.Nodup) (hi : i < (Tr.node l x y).ids.length) {Kg Kr : Int → Int → World → Prop}
    (k1 : i < l.ids.length → Kg (i : Int) (l.root : Int) w.drew) (k2 : i = l.ids.length → Kr (x : Int) 0 w.drew) (k3 : l.ids.length < i → Kg ((i - l.ids.length - 1 : Nat) : Int) (y.root : Int) w.drew) : f_euler_load_At.j1 ⟨r.R, 0, none⟩ (i : Int) (x : Int) w Kg Kr := by
  have ok' := ok
  obtain ⟨h1, h2, h3, h4, h5, h6, h7, h7b, h8, h9, hl, hr⟩ := ok
  have hlen : (Tr.node l x y).ids.length ≤ r.n := nodup_le _ _ nd fun i hi => (ok'.lt i hi).2
  unfold f_euler_load_At.j1
  refine drW_intro (ldS_intro h.drew.sl0 (nd_rd0 h.drew h2 rfl ?_))
  rw [h3]
  have hlr := hl.root_lt (show 0 < r.n by omega)
  have hls : N l.root 4 = (l.ids.length : Int) := by
    by_cases e : l.root = 0
    · rw [e, hz, hl.root_pos.1 e]; rfl
    · exact hl.sz e
  refine optB_some rfl (req_intro (by simp; omega) (nd_ld (j := 4) h.drew hlr rfl (by omega) ?_))
  rw [hls]
  by_cases c1 : i < l.ids.length
  · refine sel_t (by simpa using c1) (nd_rd0 h.drew h2 rfl ?_)
    rw [h3]; exact k1 c1
  · refine sel_f (by simpa using c1) ?_
    by_cases c2 : l.ids.length < i
    · refine sel_t (by simpa using c2) (nd_rd (j := 1) h.drew h2 rfl (by omega) ?_)
      rw [h4, w64_in (x := (i : Int) - (l.ids.length : Int)) (by omega), w64_in (by omega), show (i : Int) - (l.ids.length : Int) - 1 = ((i - l.ids.length - 1 : Nat) : Int) by omega]
      exact k3 c2
    · exact sel_f (by simpa using c2) (k2 (by omega))
theorem at_g0 {r : RC} {N : Nat → Nat → Int} (hn : r.n ≤ 65537) (hz : N 0 4 = 0) {Kr : Int → Int → World → Prop} : ∀ {t : Tr} {w : World} {i : Nat}, Rp w r N → OkT N r.n t → t.ids.Nodup → i < t.ids.length → (∀ w', Below w.heap.size w w' → Kr (t.ids.getD i 0 : Int) 0 w') →
    ∃ k, f_euler_load_At.g0 k ⟨r.R, 0, none⟩ (i : Int) (t.root : Int) w Kr
  | .nil, w, i, _, _, _, hi, _ => absurd hi (by simp [Tr.ids])
  | .node l x y, w, i, h, ok, nd, hi, hk => by
    have nd' := nd
    simp only [Tr.ids, List.nodup_append, List.nodup_cons, List.mem_cons] at nd
    obtain ⟨ndl, ⟨hxr, ndr⟩, hd⟩ := nd
    have hl := ok.2.2.2.2.2.2.2.2.2.2.1
    have hr := ok.2.2.2.2.2.2.2.2.2.2.2
    have hb : Below w.heap.size w w.drew := (Below.refl _ _).drew
    by_cases c1 : i < l.ids.length
    · obtain ⟨k, hk'⟩ := at_g0 hn hz (Kr := Kr) (i := i) h.drew hl ndl c1 fun w' b => by
        have := hk w' (hb.trans b)
        simp only [Tr.ids, List.getD_eq_getElem?_getD] at this ⊢
        rw [List.getElem?_append_left c1] at this; exact this
      refine ⟨k + 1, ?_⟩
      unfold f_euler_load_At.g0
      exact at_j1 h hn hz ok nd' hi (fun _ _ => hk') (fun e => by omega) (fun e => by omega)
    · by_cases c2 : l.ids.length < i
      · obtain ⟨k, hk'⟩ := at_g0 hn hz (Kr := Kr) (i := i - l.ids.length - 1) h.drew hr ndr (by simp only [Tr.ids, List.length_append, List.length_cons] at hi; omega) fun w' b => by
          have := hk w' (hb.trans b)
          simp only [Tr.ids, List.getD_eq_getElem?_getD] at this ⊢
          rw [List.getElem?_append_right (by omega), show i - l.ids.length = (i - l.ids.length - 1) + 1 by omega, List.getElem?_cons_succ] at this; exact this
        refine ⟨k + 1, ?_⟩
        unfold f_euler_load_At.g0
        exact at_j1 h hn hz ok nd' hi (fun e => by omega) (fun e => by omega) (fun _ _ => hk')
      · refine ⟨1, ?_⟩
        unfold f_euler_load_At.g0
        refine at_j1 h hn hz ok nd' hi (fun e => by omega) (fun e => ?_) (fun e => by omega)
        have := hk w.drew hb
        simp only [Tr.ids, List.getD_eq_getElem?_getD] at this
        rw [List.getElem?_append_right (by omega), show i - l.ids.length = 0 by omega] at this
        exact this
theorem At_ok {w : World} {r : RC} {rows : List (List Nat)} {V : Nat → Int × Int × Int} (h : Rope w r rows V) (a i : Int) :
    Calls Try.prog 68 #[.pointer (some ⟨r.R, 0, none⟩), .int .i64 a, .int .i64 i] w fun e w' => e = .returned (.tuple #[.int .i64 (atE r.n rows a i).1, .int .i64 (atE r.n rows a i).2]) ∧ Below w.heap.size w w' := by
  obtain ⟨N, ts, hp, hf⟩ := h
  apply f_euler_load_At.ok
  unfold f_euler_load_At.wp f_euler_load_At.s0
  refine alW_intro ((bad1 hp a).mono ?_)
  rintro e w1 ⟨rfl, rfl⟩
  refine ⟨_, rfl, ?_⟩
  have hp1 := hp.alloc (.cells #[.int .i64 a] 3)
  have b1 := bal w (.cells #[.int .i64 a] 3)
  generalize w.alloc (.cells #[.int .i64 a] 3) = w1 at *
  cases hb : Bd r.n a with
  | true => exact sel_t rfl fun _ => ⟨by simp [atE, hb], b1⟩
  | false =>
    obtain ⟨x, rfl, ex, hx⟩ := Bd_nat hb
    obtain ⟨s, hs, xs, es, os, us, ns⟩ := hf.tree hx
    refine sel_f rfl ((root_ok hp1 os us xs).mono ?_)
    rintro e w1 ⟨rfl, rfl⟩
    refine ⟨_, rfl, ?_⟩
    by_cases hi : i < 0
    · exact sel_t (by simpa using hi) fun _ => ⟨by simp [atE, hb, hi], b1⟩
    refine sel_f (by simpa using hi) (nd_rd (j := 4) hp1 (os.root_lt hf.pos) rfl (by omega) ?_)
    rw [os.sz (root0 os xs)]
    by_cases hi2 : i ≥ (s.ids.length : Int)
    · refine sel_t (by simpa using hi2) fun _ => ⟨?_, b1⟩
      have : i ≥ ((rowOf rows x).length : Int) := by rw [← es]; exact hi2
      simp only [atE, hb, Bool.false_eq_true, if_false, ex]
      rw [if_pos (.inr this)]
    · refine sel_f (by simpa using hi2) ?_
      obtain ⟨j, rfl⟩ : ∃ j : Nat, i = (j : Int) := ⟨i.toNat, by omega⟩
      have hj : j < s.ids.length := by omega
      have fin : ∀ w', Below w1.heap.size w1 w' → (fun (x33 : Int) (x34 : Int) (w35 : World) => ∀ _ : Fr, (fun e w' => e = Ending.returned (.tuple #[.int .i64 (atE r.n rows (x : Int) (j : Int)).1, .int .i64 (atE r.n rows (x : Int) (j : Int)).2]) ∧ Below w.heap.size w w') (.returned (.tuple #[.int .i64 x33, .int .i64 x34])) w35) (s.ids.getD j 0 : Int) 0 w' := by
        intro w' b' _
        refine ⟨?_, b1.trans (b'.mono b1.size)⟩
        have : ¬ ((j : Int) < 0 ∨ (j : Int) ≥ (s.ids.length : Int)) := by omega
        simp only [atE, hb, Bool.false_eq_true, if_false, ex, ← es, if_neg this, Int.toNat_natCast]
      cases s with
      | nil => simp [Tr.ids] at hj
      | node l z y =>
        have nd' := ns
        simp only [Tr.ids, List.nodup_append, List.nodup_cons, List.mem_cons] at ns
        obtain ⟨ndl, ⟨hxr, ndr⟩, hd⟩ := ns
        have hl := os.2.2.2.2.2.2.2.2.2.2.1
        have hr := os.2.2.2.2.2.2.2.2.2.2.2
        have hbd : Below w1.heap.size w1 w1.drew := (Below.refl _ _).drew
        refine at_j1 hp1 hf.le hf.z os nd' hj (fun c1 _ => ?_) (fun c1 => ?_) (fun c1 _ => ?_)
        · refine at_g0 hf.le hf.z hp1.drew hl ndl c1 fun w' b => ?_
          have := fin w' (hbd.trans b)
          simp only [Tr.ids, List.getD_eq_getElem?_getD] at this ⊢
          rw [List.getElem?_append_left c1] at this; exact this
        · intro _
          have := fin w1.drew hbd
          simp only [Tr.ids, List.getD_eq_getElem?_getD] at this
          rw [List.getElem?_append_right (by omega), show j - l.ids.length = 0 by omega] at this
          simpa using this
        · refine at_g0 hf.le hf.z hp1.drew hr ndr (by simp only [Tr.ids, List.length_append, List.length_cons] at hj; omega) fun w' b => ?_
          have := fin w' (hbd.trans b)
          simp only [Tr.ids, List.getD_eq_getElem?_getD] at this ⊢
          rw [List.getElem?_append_right (by omega), show j - l.ids.length = (j - l.ids.length - 1) + 1 by omega, List.getElem?_cons_succ] at this; exact this

end Go.Proofs.Ytkkobfajahmfaaa.Rd
