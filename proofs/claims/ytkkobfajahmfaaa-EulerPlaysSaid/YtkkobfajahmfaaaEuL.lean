/- The call that makes a rope, walked: New. Conditions: none. -/
import Derived.Test.YtkkobfajahmfaaaEuK
namespace Go.Proofs.Ytkkobfajahmfaaa.Rd
open Go.Dn Go.RowKit
set_option linter.unusedVariables false
set_option maxRecDepth 100000

/-- appending to a row without room: nothing that was there turns -/
theorem app_empty {P : Program} {t e : TypeId} (hT : IntTy P t e) {w : World} {B b : Nat} (hb : w.heap[b]? = some (Obj.cells #[] e)) (hBb : B ≤ b) {A2 : Option Addr} {m c2 : Nat} {l2 : List Int} {ty : TypeId}
    {K : Value → World → Prop} (hr : RI w A2 l2) (hm : m = l2.length) (hc0 : A2 = none → m = 0 ∧ c2 = 0) (hlen : l2.length ≤ 17592186044416)
    (hK : ∀ A' c' w', OwnI w' B e (some A') c' l2 → Below w.heap.size w w' → K (.slice (some A') l2.length c') w') :
    Runs P (Builtin.append_ #[t, t] ty #[.slice (some ⟨b, 0, none⟩) 0 0, .slice A2 m c2]) w K := by
  obtain ⟨i, hi, hz, hs, hby⟩ := hT.info
  subst hm
  have hbl : b < w.heap.size := (Array.getElem?_eq_some_iff.1 hb).1
  have ho : OwnI w B e (some ⟨b, 0, none⟩) 0 [] := ⟨rfl, .inr ⟨b, 0, #[], rfl, hBb, hb, Nat.le_refl _, Nat.zero_le _, rfl, rfl⟩⟩
  have hB : B ≤ w.heap.size := by omega
  cases A2 with
  | none =>
    obtain ⟨h0, hc⟩ := hc0 rfl
    have hl2 : l2 = [] := List.length_eq_zero_iff.mp h0
    subst hl2; subst hc
    exact runs_of (run_append_owned_none w B t ty e i 1 hT.und hi _ _ _ ho) (hK _ _ w ho (Below.refl _ _))
  | some a =>
    by_cases hl : l2 = []
    · subst hl
      have hrun := run_append_room (P := P) w t ty e i hT.und hi b 0 0 #[] hb a 0 c2 [] (by simp) (by simp) (by simp) (by omega) (by simp)
      refine runs_of hrun ?_
      have hhp := setRow_heap w b #[] ((#[] : Array Value).toList.take (0 * i.size) ++ ([] : List Value) ++ (#[] : Array Value).toList.drop (0 * i.size + ([] : List Value).length)).toArray e (0, 0) hb
      have hot := setRow_other w b
      have hcell : ((#[] : Array Value).toList.take (0 * i.size) ++ ([] : List Value) ++ (#[] : Array Value).toList.drop (0 * i.size + ([] : List Value).length)).toArray = #[] := by simp
      refine hK ⟨b, 0, none⟩ 0 _ ⟨rfl, .inr ⟨b, 0, #[], rfl, hBb, ?_, Nat.le_refl _, Nat.zero_le _, rfl, rfl⟩⟩ ⟨rfl, rfl, rfl, by simp, fun k hk => ?_⟩
      · rw [hhp, hcell]
      · by_cases e : k = b
        · subst e; rw [hhp, hcell, hb]
        · exact hot k _ e
    · have hpos : 0 < l2.length := List.length_pos_iff.2 hl
      have hr2 := run_append_grow (P := P) w t ty e i (.int .i64 0) hT.und hi hz ⟨b, 0, none⟩ 0 0 [] (by simp) (by simp) a l2.length c2 (l2.map (.int .i64)) (by rw [hs]; simp) hr.news (by omega) (by omega)
        (by rw [hby]; exact growslice_fits (by omega) (by omega))
      obtain ⟨v', w', hrun, ho', hg, _⟩ := run_append_own (P := P) w B t ty e i (.int .i64 0) 1 8 hT.und hi hz hs hby rfl (by decide) _ _ _ ho a l2.length c2 (l2.map (.int .i64)) (by simp) hr.news (int_one _) (by unfold maxLen; simp; omega) (by simp; omega) hB
      have hr2' : (Builtin.append_ #[t, t] ty #[Value.slice (some ⟨b, 0, none⟩) ([] : List Int).length 0, .slice (some a) l2.length c2]).run P w = _ := hr2
      rw [hr2'] at hrun
      injection hrun with hv hw
      refine runs_of hr2 ?_
      have hbel : Below w.heap.size w w' := by rw [← hw]; exact (Below.refl w.heap.size w).drew.alloc (Nat.le_refl _) _
      rw [hw]
      rw [← hv] at ho'
      simp only [List.length_nil, Nat.zero_add, List.map_nil, List.nil_append] at ho' ⊢
      exact hK _ _ w' ho' hbel
theorem z11_enc : (madeCells z11.cells (1 * 11)).toList = enc 11 1 (fun _ j => .int (kd j) 0) := by
  apply List.ext_getElem
  · simp [madeCells, enc]
  · intro j h1 h2
    have hj : j < 11 := by simpa [enc] using h2
    simp only [madeCells, enc, Array.getElem_toList, Array.getElem_map, Array.getElem_range, List.getElem_map, List.getElem_range]
    match j, hj with | 0, _ => rfl | 1, _ => rfl | 2, _ => rfl | 3, _ => rfl | 4, _ => rfl | 5, _ => rfl | 6, _ => rfl | 7, _ => rfl | 8, _ => rfl | 9, _ => rfl | 10, _ => rfl
def fNd (B : Nat) (v : Value) (w : World) : Prop := ∃ g, v = .slice (some ⟨g, 0, none⟩) 1 1 ∧ w.ownsRow B 112 11 (.slice (some ⟨g, 0, none⟩) 1 1) 1 (enc 11 1 fun _ j => .int (kd j) 0)
def fEm (B : Nat) (v : Value) (w : World) : Prop := ∃ b, v = .slice (some ⟨b, 0, none⟩) 0 0 ∧ B ≤ b ∧ w.heap[b]? = some (Obj.cells #[] 3)
def fSd (B : Nat) (sl : List Int) (v : Value) (w : World) : Prop := ∃ A c, v = .slice (some A) sl.length c ∧ OwnI w B 3 (some A) c sl
def fRp (B : Nat) (sl : List Int) (v : Value) (w : World) : Prop := ∃ r : RC, v = .pointer (some ⟨r.R, 0, none⟩) ∧ r.n = 1 ∧ r.B = B ∧ Rp w r (fun _ _ => 0)
def fN (B : Nat) (sl : List Int) (i : Nat) (v : Value) (w : World) : Prop := match i with
  | 0 => fNd B v w | 1 => fEm B v w | 3 => fSd B sl v w | 5 => fRp B sl v w
  | _ => True
theorem fN.keep {B : Nat} {sl : List Int} {i : Nat} {v : Value} {w w' : World} (h : fN B sl i v w) (hb : Below w.heap.size w w') : fN B sl i v w' := by
  unfold fN at h ⊢
  split at h
  · obtain ⟨g, e, ho⟩ := h
    exact ⟨g, e, Keeps.own ho (Keeps.of_below (S := fun _ => False) hb) (fun _ _ => id)⟩
  · obtain ⟨b, e, h1, h2⟩ := h
    exact ⟨b, e, h1, (hb.block b (Array.getElem?_eq_some_iff.1 h2).1).trans h2⟩
  · obtain ⟨A, c, e, ho⟩ := h
    exact ⟨A, c, e, ho.keeps (Keeps.of_below (S := fun _ => False) hb) (fun _ _ => id)⟩
  · obtain ⟨r, e, h1, h2, h3⟩ := h
    exact ⟨r, e, h1, h2, h3.below hb⟩
  · trivial
theorem New_ok {w : World} {A : Option Addr} {sl : List Int} {c : Nat} (hr : RI w A sl) (hc0 : A = none → sl.length = 0 ∧ c = 0) (hlen : sl.length ≤ 17592186044416) :
    Calls Try.prog 45 #[.slice A sl.length c] w fun e w' => ∃ r : RC, e = .returned (.pointer (some ⟨r.R, 0, none⟩)) ∧ (∀ V, Rope w' r [] V) ∧ r.n = 1 ∧ r.B = w.heap.size ∧ Below w.heap.size w w' := by
  apply f_euler_load.ok
  unfold f_euler_load.wp
  refine drW_intro ?_
  have b0 : Below w.heap.size w w.drew := (Below.refl _ _).drew
  have hr1 := hr.below b0 (Nat.le_refl _)
  have hsz : w.drew.heap.size = w.heap.size := rfl
  generalize w.drew = w1 at *
  refine ⟨f_euler_load.h1_ok .., fun x y => Below x.heap.size x y, fN w.heap.size sl, fun _ => Below.refl _ _, fun x y z h1 h2 => h1.trans (h2.mono h1.size), fun i v x y _ h1 h2 => fN.keep h2 h1, ?_, ?_⟩
  · refine ⟨fun _ w4 g => ?_, fun _ w8 g => alW_intro ⟨bal _ _, _, rfl, by have := g.size; omega, heap_alloc_new _ _⟩, fun _ w11 g A1 n1 c1 f1 => ?_, fun _ w15 g A0 n0 c0 f0 A1 n1 c1 f1 A3 n3 c3 f3 => ?_, trivial⟩
    · obtain ⟨i, hi, hz, hs, hby⟩ := TNd_info
      obtain ⟨w', hrun, ho, hg⟩ := run_make_full (P := Try.prog) w4 w.heap.size _ 112 i z11 11 TNd hi hz hs .i64 .i64 1 (by rw [hby]; omega) (by unfold maxLen; omega) (by have := g.size; omega)
      rw [z11_enc] at ho
      exact runs_of hrun ⟨_, _, _, rfl, ⟨hg.os, hg.tape, hg.output, hg.size, fun k hk => hg.block k hk (by simp)⟩, _, rfl, ho⟩
    · obtain ⟨b, e, h1, h2⟩ := f1
      injection e with e1 e2 e3; subst e1; subst e2; subst e3
      refine app_empty TIn h2 h1 (hr1.below g (Nat.le_refl _)) rfl hc0 hlen fun A' c' w' ho hb => ?_
      exact ⟨_, _, _, rfl, hb, _, _, rfl, ho⟩
    · obtain ⟨g0, e, ho⟩ := f0
      injection e with e1 e2 e3; subst e1; subst e2; subst e3
      obtain ⟨A, cc, e, hs⟩ := f3
      injection e with e1 e2 e3; subst e1; subst e2; subst e3
      refine alW_intro ⟨bal _ _, ⟨w.heap.size, w15.heap.size, g0, 1, 1, some A, sl, c3, 11400714819323198485⟩, rfl, rfl, rfl, ?_⟩
      have hg0 := World.ownsRow.lt ho g0 rfl
      have hA := hs.block A rfl
      have bl := bal w15 (.cells #[.slice (some ⟨g0, 0, none⟩) 1 1, .slice (some A) sl.length c3, .int .u64 (11400714819323198485 : Int)] 109)
      refine ⟨heap_alloc_new _ _, Keeps.own ho (Keeps.of_below (S := fun _ => False) bl) (fun _ _ => id), by have := g.size; show w.heap.size ≤ w15.heap.size; omega, by show g0 ≠ w15.heap.size; omega, hs.reads.below bl (Nat.le_refl _), ?_⟩
      intro a ha
      injection ha with ha; subst ha
      refine ⟨hA.1, by simp; omega, by show A.block ≠ w15.heap.size; omega, ?_⟩
      show A.block ≠ g0
      intro e
      obtain ⟨_, h1⟩ := ho
      rcases h1 with ⟨h1, _⟩ | ⟨g', cap, cur, hv, _, hh, _⟩
      · cases h1
      · injection hv with hv; injection hv with hv; injection hv with hv; subst hv
        obtain ⟨_, h2⟩ := hs
        rcases h2 with ⟨h2, _⟩ | ⟨g2, cap2, cur2, hv2, _, hh2, _⟩
        · cases h2
        · injection hv2 with hv2; injection hv2 with hv2; subst hv2
          simp only at e
          subst e
          rw [hh] at hh2
          injection hh2 with hh2; injection hh2 with _ hh2; cases hh2
  · intro w18 g A0 n0 c0 f0 A1 n1 c1 f1 A3 n3 c3 f3 a5 f5
    obtain ⟨r, e, h1, h2, h3⟩ := f5
    injection e with e; injection e with e; subst e
    refine ⟨r, rfl, fun V => ⟨_, [], h3, ?_⟩, h1, h2, b0.trans (g.mono (Nat.le_of_eq hsz.symm))⟩
    rw [h1]
    refine ⟨rfl, ⟨by simp, by simp, List.Pairwise.nil, fun i => ?_⟩, by simp, rfl, fun i _ => ⟨⟨by omega, by omega⟩, ⟨by omega, by omega⟩, ⟨by omega, by omega⟩⟩, by omega, by omega, fun i h1 h2 => by omega⟩
    constructor
    · rintro ⟨l, hl, _⟩; simp at hl
    · omega
end Go.Proofs.Ytkkobfajahmfaaa.Rd
