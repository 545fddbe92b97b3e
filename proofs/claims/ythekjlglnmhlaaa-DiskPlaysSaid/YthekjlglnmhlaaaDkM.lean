/- A disk in memory: Load. Conditions: none. -/
import Derived.Test.YthekjlglnmhlaaaDkL
namespace Go.Proofs.Ythekjlglnmhlaaa.Rd
open Go.Dn Go.RowKit Go.Shelf
set_option linter.unusedVariables false
set_option linter.unusedSimpArgs false
set_option maxRecDepth 100000
theorem encs_seg : ∀ {l : List Sec} {i : Nat} (hi : i < l.length), ((encs secL l).drop (i * 512)).take 512 = secL l[i]
  | [], i, hi => by simp at hi
  | a :: l, 0, hi => by
    simp only [Nat.zero_mul, List.drop_zero, encs, List.flatMap_cons, List.getElem_cons_zero]
    rw [List.take_append, secL_len, Nat.sub_self, List.take_zero, List.append_nil, List.take_of_length_le (by rw [secL_len]; omega)]
  | a :: l, i + 1, hi => by
    have ih := encs_seg (l := l) (i := i) (by simpa using hi)
    simp only [encs, List.flatMap_cons, List.getElem_cons_succ] at ih ⊢
    have h2 : List.drop ((i + 1) * 512) (secL a) = [] := List.drop_eq_nil_of_le (by rw [secL_len]; omega)
    have e1 : (i + 1) * 512 - 512 = i * 512 := by omega
    rw [List.drop_append, secL_len, h2, e1, List.nil_append, ih]
theorem secOf_take (l : List Int) : secL (secOf l) = (l.take 512).map bV ++ List.replicate (512 - (l.take 512).length) (bV 0) := by
  unfold secL secOf
  simp only
  rw [List.take_append, List.map_append, List.take_replicate, List.map_replicate, List.length_take]
  congr 2
  omega
section
variable {w w' : World} {B : Nat} {r : RD} {d : Dk}
/-- bytes copied into a sector of zeros in a row of one's own -/
theorem sec_copy {g c : Nat} {l : List Sec} (h : OwnE secL 512 w B TS (some ⟨g, 0, none⟩) c l) {i : Nat} (hi : i < l.length) (hz : l[i] = z0) {a : Addr} {l' : List Int} {c' : Nat} (hr : RB w (some a) l') {K : Value → World → Prop} (hk : ∀ w', OwnE secL 512 w' B TS (some ⟨g, 0, none⟩) c (l.set i (secOf l')) → Keeps (fun k => k = g) w w' → K (.int .i64 ((l'.take 512).length : Int)) w') :
    Runs Try.prog (Builtin.copy_ #[35, 35] 3 #[.slice (some ((⟨g, 0, none⟩ : Addr).add (i * 512))) 512 512, .slice (some a) l'.length c']) w K := by
  obtain ⟨hl, h⟩ := h
  rcases h with ⟨h1, _⟩ | ⟨g', cap, cur, hv', hg, hh, hn, hm, hs, ht⟩
  · injection h1 with h1; cases h1
  injection hv' with hA hn' hc
  injection hA with hA; injection hA with hA; subst hA
  subst hc
  have hu : Try.prog.underlying 35 = some (.slice 5) := by kernel_rfl
  have hsz : (Try.prog.info? 5).map (·.size) = some 1 := by kernel_rfl
  have hcs : l.length * 512 ≤ cur.size := by rw [hs]; exact Nat.mul_le_mul_right _ hn
  have hil : i * 512 + 512 ≤ l.length * 512 := by omega
  have hk5 : (l'.take 512).length ≤ 512 := by rw [List.length_take]; omega
  have hrun := run_copy_row (P := Try.prog) w 35 35 3 5 g (i * 512) 512 512 a l'.length c' cur TS ((l'.take 512).map bV) hu hsz hh (by rw [List.length_map, List.length_take]; show min 512 l'.length = min l'.length 512; omega) (fun j v hj => by
    rw [List.getElem?_map] at hj
    obtain ⟨x, hx, rfl⟩ := Option.map_eq_some_iff.1 hj
    obtain ⟨hjl, rfl⟩ := List.getElem?_eq_some_iff.1 hx
    have hjl' : j < l'.length := by rw [List.length_take] at hjl; omega
    obtain ⟨a', ha', hc⟩ := hr j hjl'
    injection ha' with ha'; subst ha'
    rw [List.getElem_take]; exact hc) (by rw [List.length_map]; omega) (fun v hv => by obtain ⟨x, _, rfl⟩ := List.mem_map.1 hv; rfl)
  have hseg : (cur.toList.drop (i * 512)).take 512 = List.replicate 512 (bV 0) := by
    have h1 := encs_seg hi
    rw [← ht, hz, List.drop_take, List.take_take] at h1
    have e1 : min 512 (l.length * 512 - i * 512) = 512 := by omega
    rw [e1] at h1
    rw [h1]; simp only [secL, z0, List.map_replicate]
  have hdrop : cur.toList.drop (i * 512 + (l'.take 512).length) = List.replicate (512 - (l'.take 512).length) (bV 0) ++ cur.toList.drop (i * 512 + 512) := by
    have h1 : cur.toList.drop (i * 512) = List.replicate 512 (bV 0) ++ cur.toList.drop (i * 512 + 512) := by
      rw [← hseg, ← List.drop_drop]
      exact (List.take_append_drop 512 _).symm
    rw [← List.drop_drop, h1, List.drop_append, List.drop_replicate, List.length_replicate]
    congr 1
    have : (l'.take 512).length - 512 = 0 := by omega
    rw [this, List.drop_zero]
  rw [List.length_map, hdrop] at hrun
  have hcells : cur.toList.take (i * 512) ++ (l'.take 512).map bV ++ (List.replicate (512 - (l'.take 512).length) (bV 0) ++ cur.toList.drop (i * 512 + 512)) = cur.toList.take (i * 512) ++ secL (secOf l') ++ cur.toList.drop (i * 512 + 512) := by
    rw [secOf_take]; simp only [List.append_assoc]
  rw [hcells] at hrun
  rw [add_mk, Nat.zero_add]
  refine runs_of hrun ?_
  have := hk (w.setRow g (cur.toList.take (i * 512) ++ secL (secOf l') ++ cur.toList.drop (i * 512 + 512)).toArray) ⟨?_, .inr ⟨g, c, (cur.toList.take (i * 512) ++ secL (secOf l') ++ cur.toList.drop (i * 512 + 512)).toArray, ?_, hg, HB.setRow (show HB w g cur TS from hh) _, ?_, hm, ?_, ?_⟩⟩ (setRow_keeps _ _ _)
  · simpa [goInt] using this
  · rw [encs_len ES, List.length_set]
  · rw [List.length_set]
  · rw [List.length_set]; exact hn
  · simp [secL_len, hs]; omega
  · rw [List.length_set, encs_setS hi, ← ht]
    simp only [List.take_append, List.take_take, List.length_append, List.length_take, Array.length_toList, secL_len]
    have e1 : min (i * 512) cur.size = i * 512 := by omega
    have e2 : min (l.length * 512) (i * 512) = i * 512 := by omega
    have e3 : min (i * 512) (l.length * 512) = i * 512 := by omega
    rw [e1, e2, e3, List.take_of_length_le (l := secL (secOf l')) (by rw [secL_len]; omega), List.drop_take]
/-- the sectors that are loaded -/
def nL (n : Nat) : Nat := min 4096 ((n + 511) / 512)
def loadL (l : List Int) (k : Nat) : List Sec := (List.range (nL l.length)).map fun i => if i < k then secOf (l.drop (i * 512)) else z0
def loadD (l : List Int) : Dk := ⟨loadL l (nL l.length), [], [], 0, false⟩
theorem loadL_len (l : List Int) (k : Nat) : (loadL l k).length = nL l.length := by simp [loadL]
theorem loadL_get (l : List Int) (k i : Nat) (h : i < (loadL l k).length) : (loadL l k)[i] = if i < k then secOf (l.drop (i * 512)) else z0 := by simp [loadL]
theorem loadL_zero (l : List Int) : loadL l 0 = List.replicate (nL l.length) z0 := by
  apply List.ext_getElem
  · rw [loadL_len, List.length_replicate]
  · intro i h1 h2
    rw [loadL_get, List.getElem_replicate, if_neg (by omega)]
theorem loadL_succ (l : List Int) {k : Nat} (hk : k < nL l.length) : (loadL l k).set k (secOf (l.drop (k * 512))) = loadL l (k + 1) := by
  apply List.ext_getElem
  · rw [List.length_set, loadL_len, loadL_len]
  · intro i h1 h2
    rw [List.getElem_set, loadL_get, loadL_get]
    by_cases e : k = i
    · subst e; rw [if_pos rfl, if_pos (by omega)]
    · rw [if_neg e]
      by_cases h : i < k
      · rw [if_pos h, if_pos (by omega)]
      · rw [if_neg h, if_neg (by omega)]
theorem load_l0 {w0 : World} {A : Option Addr} {c : Nat} {l : List Int} (hr : RB w0 A l) (hlen : l.length ≤ 140737488355328) (hc : l.length ≤ c) (hA : ∀ a, A = some a → ¬ Ob r.A a.block) {K0 : World → Prop}
    (k0 : ∀ w, DM w B r (loadD l) → Keeps (Ob r.A) w0 w → K0 w) : ∀ (m i : Nat) (w : World), nL l.length - i = m → i ≤ nL l.length → DM w B r { newD 0 with safe := loadL l i } → Keeps (Ob r.A) w0 w →
      f_disk_Load.l0 (m + 1) A l.length c (some ⟨r.D, 0, none⟩) (nL l.length : Int) (i : Int) w K0 := by
  have hn : nL l.length ≤ 4096 := by unfold nL; omega
  intro m
  induction m with
  | zero =>
    intro i w hm hi h hk
    have : i = nL l.length := by omega
    subst this
    unfold f_disk_Load.l0
    exact sel_f (by simp) (k0 w h hk)
  | succ m ih =>
    intro i w hm hi h hk
    have hlt : i < nL l.length := by omega
    have hio : i * 512 < l.length := by unfold nL at hlt; omega
    have hw : IntKind.i64.wrap ((i : Int) + 1) = ((i + 1 : Nat) : Int) := by rw [w64_in (by omega)]; omega
    have hw2 : IntKind.i64.wrap ((i : Int) * 512) = ((i * 512 : Nat) : Int) := by rw [w64_in (by omega)]; omega
    have bd : Below w.heap.size w w.drew := (Below.refl _ _).drew
    have hd := h.below bd
    have hll : (loadL l i).length = nL l.length := loadL_len _ _
    obtain ⟨g, hg⟩ : ∃ g, r.A = some ⟨g, 0, none⟩ := by
      rcases hd.sf.2 with ⟨h1, h2⟩ | ⟨g, cap, cur, hv, _⟩
      · rw [hll] at h2; omega
      · injection hv with hv; exact ⟨g, hv⟩
    obtain ⟨a, ha, _⟩ := hr 0 (by omega)
    subst ha
    have hr2 : RB w.drew (some (a.add (i * 512))) (l.drop (i * 512)) := fun j hj => by
      rw [List.length_drop] at hj
      obtain ⟨a', ha', hc⟩ := ((hr.keeps hk hA).belw bd) (i * 512 + j) (by omega)
      injection ha' with ha'; subst ha'
      refine ⟨_, rfl, ?_⟩
      rw [add_add, List.getElem_drop]; exact hc
    unfold f_disk_Load.l0
    rw [hw, hw2]
    refine sel_t (by simpa using hlt) (drW_intro (optB_some rfl (hb_ldS0 hd.hb (A := r.A) (n := (loadL l i).length) (c := r.c) rfl (optB_some hg (req_intro (by rw [hll]; simp; omega) (req_intro (by simp; omega) ?_))))))
    simp only [Int.toNat_natCast]
    have e1 : slA (some a) (i * 512) c 1 = some (a.add (i * 512)) := by unfold slA; rw [if_neg (by omega)]; simp
    have e2 : l.length - i * 512 = (l.drop (i * 512)).length := by rw [List.length_drop]
    rw [e1, e2]
    have hsf : OwnE secL 512 w.drew B TS (some ⟨g, 0, none⟩) r.c (loadL l i) := by rw [← hg]; exact hd.sf
    refine sec_copy hsf (by rw [hll]; exact hlt) (by rw [loadL_get, if_neg (by omega)]) hr2 fun w2 o2 k2 => ⟨_, rfl, ?_⟩
    rw [loadL_succ l hlt, ← hg] at o2
    have k2' : Keeps (Ob r.A) w.drew w2 := k2.mono fun k _ e => ⟨_, hg, e.symm⟩
    obtain ⟨d1, d2, d3, d4, d5, d6⟩ := hd.dd
    refine ih (i + 1) w2 (by omega) (by omega) ⟨?_, o2, hd.gm.keeps k2' d3, hd.pl.keeps k2' fun a ha ho => d6 _ ho ⟨a, ha, rfl⟩, h.lo, by simp only [loadL_len]; omega, (fun p hp => by cases hp), h.pn⟩ ((hk.trans (.of_below bd)).trans k2')
    have := hd.hb.keeps k2' d2
    unfold dkC newD at this ⊢
    simp only [loadL_len] at this ⊢
    exact this
theorem Load_ok {A : Option Addr} {n c : Nat} {l : List Int} (hr : RB w A l) (hn : n = l.length) (hlen : l.length ≤ 140737488355328) (hc : l.length ≤ c) (hA : ∀ a, A = some a → l ≠ [] → a.block < w.heap.size) :
    Calls Try.prog 25 #[.slice A n c] w fun e w' => ∃ r, e = .returned (.pointer (some ⟨r.D, 0, none⟩)) ∧ DM w' w.heap.size r (loadD l) ∧ Below w.heap.size w w' := by
  subst hn
  apply f_disk_Load.ok
  unfold f_disk_Load.wp
  have ex : (IntKind.i64.wrap ((IntKind.i64.wrap ((l.length : Int) + (512 : Int))) - (1 : Int))).tdiv (512 : Int) = (((l.length + 511) / 512 : Nat) : Int) := by
    rw [w64_in (x := (l.length : Int) + 512) (by omega), w64_in (by omega)]
    have : (l.length : Int) + 512 - 1 = ((l.length + 511 : Nat) : Int) := by omega
    rw [this]
    rfl
  have ew : IntKind.i64.wrap (((l.length + 511) / 512 : Nat) : Int) = (((l.length + 511) / 512 : Nat) : Int) := w64_in (by omega)
  rw [ex, ew]
  have en : nS (((l.length + 511) / 512 : Nat) : Int) = nL l.length := by
    unfold nS nL
    split <;> omega
  refine (New_ok w _).mono ?_
  rintro _ w1 ⟨r, rfl, h1, g1⟩
  rw [en] at h1
  have hsl : (newD (nL l.length)).safe.length = nL l.length := by simp [newD]
  refine ⟨_, rfl, optB_some rfl (hb_ldS0 h1.hb (A := r.A) (n := (newD (nL l.length)).safe.length) (c := r.c) rfl ?_)⟩
  rw [hsl]
  have hB : ∀ k, Ob r.A k → w.heap.size ≤ k := fun k hk => (h1.lt k (.inr (.inr (.inl hk)))).2
  by_cases h0 : l = []
  · subst h0
    exact ⟨1, by
      unfold f_disk_Load.l0
      exact sel_f (by simp [nL]) fun _ => ⟨r, rfl, h1, g1⟩⟩
  refine ⟨_, load_l0 (w0 := w1) (hr.belw g1) hlen hc (fun a ha ho => by have := hA a ha h0; have := hB _ ho; omega) (fun w2 h2 k2 => ?_) _ 0 w1 rfl (by omega) (by rw [loadL_zero]; exact h1) (.refl _ _)⟩
  exact fun _ => ⟨r, rfl, h2, g1.trans (k2.below g1.size fun k hk ho => by have := hB k ho; omega)⟩
end
end Go.Proofs.Ythekjlglnmhlaaa.Rd
