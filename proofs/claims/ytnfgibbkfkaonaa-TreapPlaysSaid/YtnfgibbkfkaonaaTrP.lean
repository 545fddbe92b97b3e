/- A script read record by record; the walk of TreapSums and its plain law. Conditions: none. -/
import Derived.Test.YtnfgibbkfkaonaaTrO
import Derived.Test.YtnfgibbkfkaonaaRdL5
namespace Go.Proofs.Ytnfgibbkfkaonaa.Rd
open Go.Dn Go.RowKit
set_option linter.unusedVariables false
set_option maxRecDepth 100000

def ks5 : List IntKind := [.i64, .i64, .i64, .i64, .u8]
def opAt (f : Nat → Nat → Int) (i : Nat) : OpV := ⟨f i 0, f i 1, f i 2, f i 3, f i 4⟩
theorem _root_.Go.Dn.IsRecs.opOk {w : World} {A : Option Addr} {len cap : Nat} {f : Nat → Nat → Int} (h : IsRecs ks5 w A len cap f) {i : Nat} (hi : i < len) : OpOk (opAt f i) := by
  rcases h with ⟨_, h0, _⟩ | ⟨a, _, _, _, h3⟩
  · omega
  · have h3' := (h3 i hi 3 (by decide)).2
    have h4' := (h3 i hi 4 (by decide)).2
    exact ⟨wf_i64 h3', wf_u8 h4'⟩
theorem _root_.Go.Dn.IsRecs.le {ks : List IntKind} {w : World} {A : Option Addr} {len cap : Nat} {f : Nat → Nat → Int} (h : IsRecs ks w A len cap f) : len ≤ 9223372036854775807 := by
  rcases h with ⟨_, h0, _⟩ | ⟨a, _, h1, h2, _⟩
  · omega
  · unfold maxLen at h2; omega
theorem op_rd {w : World} {A : Option Addr} {len cap : Nat} {f : Nat → Nat → Int} {i : Nat} (h : IsRecs ks5 w A len cap f) (hi : i < len) {K : Nat → World → Int → Int → Int → Int → Int → Prop}
    (hk : ∀ w' b, b = w.heap.size → HB w' b #[.int .i64 (f i 0), .int .i64 (f i 1), .int .i64 (f i 2), .int .i64 (f i 3), .int .u8 (f i 4)] 30 → Below w.heap.size w w' → K b w' (f i 0) (f i 1) (f i 2) (f i 3) (f i 4)) :
    optB A fun a7 => req (decide (0 ≤ (i : Int) ∧ (i : Int) < (len : Int))) <| ldI w (a7.add ((i : Int).toNat * 5)) .i64 fun x8 => ldI w ((a7.add ((i : Int).toNat * 5)).add 1) .i64 fun x9 => ldI w ((a7.add ((i : Int).toNat * 5)).add 2) .i64 fun x10 => ldI w ((a7.add ((i : Int).toNat * 5)).add 3) .i64 fun x11 => ldI w ((a7.add ((i : Int).toNat * 5)).add 4) .u8 fun x12 =>
    alW w (.cells #[.int .i64 (0 : Int), .int .i64 (0 : Int), .int .i64 (0 : Int), .int .i64 (0 : Int), .int .u8 (0 : Int)] 30) fun B13 w14 =>
    stW w14 (⟨B13, 0, Option.none⟩ : Addr) (.int .i64 x8) fun w15 => stW w15 ((⟨B13, 0, Option.none⟩ : Addr).add 1) (.int .i64 x9) fun w16 => stW w16 ((⟨B13, 0, Option.none⟩ : Addr).add 2) (.int .i64 x10) fun w17 => stW w17 ((⟨B13, 0, Option.none⟩ : Addr).add 3) (.int .i64 x11) fun w18 => stW w18 ((⟨B13, 0, Option.none⟩ : Addr).add 4) (.int .u8 x12) fun w19 =>
    ldI w19 (⟨B13, 0, Option.none⟩ : Addr) .i64 fun x20 => ldI w19 ((⟨B13, 0, Option.none⟩ : Addr).add 1) .i64 fun x21 => ldI w19 ((⟨B13, 0, Option.none⟩ : Addr).add 2) .i64 fun x22 => ldI w19 ((⟨B13, 0, Option.none⟩ : Addr).add 3) .i64 fun x23 => ldI w19 ((⟨B13, 0, Option.none⟩ : Addr).add 4) .u8 fun x24 => K B13 w19 x20 x21 x22 x23 x24 := by
  rcases h with ⟨_, h0, _⟩ | ⟨a, rfl, _, _, h3⟩
  · omega
  have c := fun j hj => (h3 i hi j hj).1
  have c0 := c 0 (by decide); have c1 := c 1 (by decide); have c2 := c 2 (by decide); have c3 := c 3 (by decide); have c4 := c 4 (by decide)
  simp only [← add_add] at c1 c2 c3 c4
  refine optB_some rfl (req_intro (by simp; omega) (ldI_intro c0 (ldI_intro c1 (ldI_intro c2 (ldI_intro c3 (ldI_intro c4 (al_new fun w1 b e z h1 q1 => ?_)))))))
  refine hb_st0 h1 (by simp) fun w2 h2 k2 => hb_st (j := 1) h2 (by simp) fun w3 h3 k3 => hb_st (j := 2) h3 (by simp) fun w4 h4 k4 => hb_st (j := 3) h4 (by simp) fun w5 h5 k5 => hb_st (j := 4) h5 (by simp) fun w6 h6 k6 => ?_
  refine hb_ldI0 h6 rfl (hb_ldI (j := 1) h6 rfl (hb_ldI (j := 2) h6 rfl (hb_ldI (j := 3) h6 rfl (hb_ldI (j := 4) h6 rfl ?_))))
  exact hk w6 b e h6 (q1.trans ((((k2.trans k3).trans (k4.trans k5)).trans k6).below (by omega) fun i hi e' => by omega))
theorem LS.set {w0 w : World} {r : RC} {m : MS} (h : LS w0 w r m) (a v k : Int) (hv : In64 v) (hk : 0 ≤ k ∧ k ≤ 255) :
    Calls Try.prog 22 #[.pointer (some ⟨r.R, 0, none⟩), .int .i64 a, .agg #[.int .i64 v, .int .i64 k]] w fun e w' => e = .returned (.int .i64 (cutE m.n a)) ∧ LS w0 w' r ⟨m.n, m.rows, setV m.n m.V a v k⟩ ∧ Keeps (Sr r) w w' := by
  refine (Set_ok h.rope a v k ⟨hv, by exact ⟨by omega, by omega⟩⟩).mono ?_
  rintro e w' ⟨rfl, hr, hk'⟩
  rw [h.n] at hr ⊢
  have := h.marks.step (o := ⟨4, a, 0, v, k⟩) ⟨hv, hk⟩
  simp only [stepM] at this
  exact ⟨rfl, ⟨hr, h.n, h.B, this, h.belK hk'⟩, hk'⟩
theorem LS.rok {w0 w : World} {r : RC} {m : MS} (h : LS w0 w r m) : RowsOk m.n m.rows ∧ m.n ≤ 65537 ∧ 0 < m.n := by
  obtain ⟨N, ts, hp, hf⟩ := h.rope
  have := h.n
  rw [this] at hf
  exact ⟨hf.rok, hf.le, hf.pos⟩
theorem _root_.Go.Dn.RowsOk.rlen {n : Nat} {rows : List (List Nat)} (h : RowsOk n rows) {a : Nat} (ha : 0 < a ∧ a < n) : (rowOf rows a).length ≤ n ∧ (rowOf rows a).Nodup ∧ a ∈ rowOf rows a ∧ ∀ i ∈ rowOf rows a, 0 < i ∧ i < n := by
  obtain ⟨h1, h2⟩ := h.rowOf_mem ha
  have h3 : ∀ i ∈ rowOf rows a, 0 < i ∧ i < n := fun i hi => (h.mem i).1 ⟨_, h1, hi⟩
  exact ⟨nodup_le n _ (h.nd _ h1) fun i hi => (h3 i hi).2, h.nd _ h1, h2, h3⟩

/-! ### TreapSums: the plain law -/
theorem sm_nil (V : Nat → Int × Int) : sm V [] = (0, 0) := by simp [sm, w64w]
theorem sm_snoc (V : Nat → Int × Int) (l : List Nat) (x : Nat) : sm V (l ++ [x]) = (IntKind.i64.wrap ((sm V l).1 + (V x).1), IntKind.i64.wrap ((sm V l).2 + (V x).2)) := by
  simp only [sm, List.map_append, List.sum_append, List.map_cons, List.map_nil, List.sum_cons, List.sum_nil, Int.add_zero]
  rw [wrap_addl, wrap_addl]
theorem sum_upd (V : Nat → Int × Int) (x : Nat) (v : Int) : ∀ {l : List Nat}, l.Nodup → x ∈ l → (l.map fun i => ((if i = x then (v, (V x).2) else V i) : Int × Int).1).sum = (l.map fun i => (V i).1).sum - (V x).1 + v
  | [], _, h => absurd h (by simp)
  | a :: l, nd, h => by
    rw [List.nodup_cons] at nd
    simp only [List.map_cons, List.sum_cons]
    by_cases e : a = x
    · subst e
      have : (l.map fun i => ((if i = a then (v, (V a).2) else V i) : Int × Int).1) = l.map fun i => (V i).1 := List.map_congr_left fun i hi => by rw [if_neg (ne_mem hi nd.1)]
      rw [this, if_pos rfl]; show v + _ = _; omega
    · have hx : x ∈ l := by rcases List.mem_cons.1 h with h | h; exact absurd h.symm e; exact h
      rw [sum_upd V x v nd.2 hx, if_neg e]; omega
theorem sm_upd (V : Nat → Int × Int) (x : Nat) (v : Int) {l : List Nat} (nd : l.Nodup) (h : x ∈ l) : sm (fun i => if i = x then (v, (V x).2) else V i) l = (IntKind.i64.wrap (IntKind.i64.wrap ((sm V l).1 - (V x).1) + v), (sm V l).2) := by
  unfold sm
  congr 1
  · rw [sum_upd V x v nd h]
    show IntKind.i64.wrap _ = IntKind.i64.wrap (IntKind.i64.wrap (IntKind.i64.wrap _ - (V x).1) + v)
    rw [w64w, w64w, w64w, w64w]; omega
  · congr 2
    apply List.map_congr_left
    intro i _
    by_cases e : i = x
    · subst e; simp
    · simp [e]
theorem sm_out (V : Nat → Int × Int) (x : Nat) (p : Int × Int) {l : List Nat} (h : x ∉ l) : sm (fun i => if i = x then p else V i) l = sm V l := by
  unfold sm
  have h1 : (l.map fun i => ((if i = x then p else V i) : Int × Int).1) = l.map fun i => (V i).1 := List.map_congr_left fun i hi => by rw [if_neg (ne_mem hi h)]
  have h2 : (l.map fun i => ((if i = x then p else V i) : Int × Int).2) = l.map fun i => (V i).2 := List.map_congr_left fun i hi => by rw [if_neg (ne_mem hi h)]
  rw [h1, h2]

/-! ### TreapSums: the walk -/
theorem Sums_l0 {w0 : World} {A : Option Addr} {len cap : Nat} {f : Nat → Nat → Int} (hf : IsRecs ks5 w0 A len cap f) {R : Nat} {K0 : World → Prop} (hK : ∀ w' r' m', LS w0 w' r' m' → r'.R = R → K0 w') :
    ∀ (d i : Nat) (w : World) (r : RC) (m : MS), len - i = d → i ≤ len → LS w0 w r m → r.R = R → f_law15_TreapSums.l0 (d + 1) (some ⟨R, 0, none⟩) A len cap (len : Int) (i : Int) w K0 := by
  intro d
  induction d with
  | zero =>
    intro i w r m h1 h2 h3 h4
    have : i = len := by omega
    subst this
    unfold f_law15_TreapSums.l0
    exact sel_f (by simp) (hK w r m h3 h4)
  | succ d ih =>
    intro i w r m h1 h2 h3 h4
    have hle := hf.le
    unfold f_law15_TreapSums.l0
    refine sel_t (by simp; omega) (op_rd (hf.below h3.bel) (by omega) fun w1 b e hb q1 => ?_)
    subst h4
    refine (changes0_ok (h3.below q1) (hf.opOk (i := i) (by omega))).mono ?_
    rintro e w2 ⟨A0, n0, c0, A1, n1, c1, A2, n2, c2, bb, rfl, r', hL, hm, hk⟩
    refine ⟨_, _, _, _, _, _, _, _, _, _, rfl, ?_⟩
    rw [w64_in (by omega), show (i : Int) + 1 = ((i + 1 : Nat) : Int) by omega]
    exact ih (i + 1) w2 r' _ (by omega) (by omega) hL hm.R
theorem Sums_l1 {w0 : World} {r : RC} {m : MS} {A : Option Addr} {c : Nat} {l : List Nat} {b35 b44 : Nat} {cs35 : Array Value} (hl : ∀ i ∈ l, 0 < i ∧ i < m.n) (hlen : l.length ≤ 65537) (hbb : b35 ≠ b44 ∧ r.R < b44 ∧ r.g < b44 ∧ w0.heap.size ≤ b44) (hAs : ∀ a, r.As = some a → a.block < b44) {K2 : World → Prop} {Kr : Bool → World → Prop}
    (hK : ∀ w', LS w0 w' r m → HB w' b35 cs35 27 → HB w' b44 #[.int .i64 (sm m.V l).1, .int .i64 (sm m.V l).2] 27 → K2 w') :
    ∀ (d i : Nat) (w : World), l.length - i = d → i ≤ l.length → LS w0 w r m → LI w A c (zs l) → HB w b35 cs35 27 → HB w b44 #[.int .i64 (sm m.V (l.take i)).1, .int .i64 (sm m.V (l.take i)).2] 27 →
    f_law15_TreapSums.l1 (d + 1) (some ⟨r.R, 0, none⟩) (⟨b44, 0, none⟩ : Addr) A l.length c (l.length : Int) (i : Int) w K2 Kr := by
  intro d
  induction d with
  | zero =>
    intro i w h1 h2 h3 h4 h5 h6
    have : i = l.length := by omega
    subst this
    rw [List.take_length] at h6
    unfold f_law15_TreapSums.l1
    exact sel_f (by simp) (hK w h3 h5 h6)
  | succ d ih =>
    intro i w h1 h2 h3 h4 h5 h6
    have hi : i < l.length := by omega
    unfold f_law15_TreapSums.l1
    obtain ⟨a, rfl, hc⟩ := h4.reads i (by rw [zs_len]; exact hi)
    have hz : (zs l)[i]'(by rw [zs_len]; exact hi) = (l[i] : Int) := by simp [zs]
    rw [hz] at hc
    refine sel_t (by simp; omega) (optB_some rfl (req_intro (by simp; omega) (ldI_intro (by rw [Int.toNat_natCast, Nat.mul_one]; exact hc) ((h3.value _).mono ?_))))
    rintro e w1 ⟨rfl, hL1, q1⟩
    have hx := hl l[i] (List.getElem_mem _)
    have hbd : Bd m.n (l[i] : Int) = false := by simp [Bd]; omega
    have hv : valueE m.n m.V (l[i] : Int) = ((m.V l[i]).1, (m.V l[i]).2, 0) := by simp [valueE, hbd]
    rw [hv]
    have h4 := h4.below q1; have h5 := h5.below q1; have h6 := h6.below q1
    have hb5 := h5.lt; have hb6 := h6.lt
    refine ⟨_, _, _, rfl, al_new fun w2 b e z h2' q2 => ?_⟩
    have h4 := h4.below q2; have h5 := h5.below q2; have h6 := h6.below q2
    have hL2 := hL1.below q2
    have hx5 : b35 < b := by omega
    have hx6 : b44 < b := by omega
    refine hb_st0 h2' (by simp) fun w3 h3' k3 => hb_st (j := 1) h3' (by simp) fun w4 h4' k4 => sel_f (by simp) ?_
    have k34 := k3.trans k4
    have hL4 := hL2.keeps k34 (by omega) (by omega) (fun a ha => by have := hAs a ha; omega) (by omega)
    have h4 := (h4.st k3 h2' (by decide)).st k4 h3' (by decide)
    have h5 := h5.keeps k34 (by omega); have h6 := h6.keeps k34 (by omega)
    refine hb_ldI0 h6 rfl (hb_ldI (j := 1) h6 rfl (hb_ldI0 h4' rfl (hb_ldI (j := 1) h4' rfl ((Plus_ok _ _ _ _ _).mono ?_))))
    rintro e w5 ⟨rfl, q5⟩
    have hL5 := hL4.below q5
    have h4 := h4.below q5; have h5 := h5.below q5; have h6 := h6.below q5
    refine ⟨_, _, rfl, hb_st0 h6 (by simp) fun w6 h6' k6 => hb_st (j := 1) h6' (by simp) fun w7 h7' k7 => ?_⟩
    have k67 := k6.trans k7
    have hL7 := hL5.keeps k67 (by omega) (by omega) (fun a ha => by have := hAs a ha; omega) (by omega)
    have h4 := (h4.st k6 h6 (by decide)).st k7 h6' (by decide)
    have h5 := h5.keeps k67 (by omega)
    rw [w64_in (by omega), show (i : Int) + 1 = ((i + 1 : Nat) : Int) by omega]
    refine ih (i + 1) w7 (by omega) (by omega) hL7 h4 h5 ?_
    rw [List.take_succ_eq_append_getElem hi, sm_snoc]
    exact h7'
theorem TreapSums_walk {w : World} {A0 A1 : Option Addr} {n0 n1 c0 c1 : Nat} {sl : List Int} {f : Nat → Nat → Int} (hr : RI w A0 sl) (hn : n0 = sl.length) (hc0 : A0 = none → sl.length = 0 ∧ c0 = 0) (hlen : sl.length ≤ 17592186044416) (hf : IsRecs ks5 w A1 n1 c1 f) (a b v : Int) (hv : In64 v) :
    Calls Try.prog 5 #[.slice A0 n0 c0, .slice A1 n1 c1, .int .i64 a, .int .i64 b, .int .i64 v] w fun e w' => e = .returned (.bool true) ∧ Below w.heap.size w w' := by
  apply f_law15_TreapSums.ok
  unfold f_law15_TreapSums.wp
  refine (LS.new (w0 := w) (Below.refl _ _) hr hn hc0 hlen).mono ?_
  rintro e w1 ⟨r, rfl, hS, hB, hb⟩
  refine ⟨_, rfl, sel_f rfl ((alive_ok w1).mono ?_)⟩
  rintro e w2 ⟨rfl, q2⟩
  refine ⟨_, rfl, sel_f rfl ⟨_, Sums_l0 hf ?_ n1 0 w2 r _ rfl (by omega) (hS.below q2) rfl⟩⟩
  intro w3 r3 m hS hR _
  rw [← hR]
  obtain ⟨rok, hle, hpos⟩ := hS.rok
  have hlt := hS.rope.lt
  have has := hS.rope.as
  have hw3 := hS.bel.size
  refine (hS.list a).mono ?_
  rintro e w4 ⟨A4, c4, rfl, hl4, hS4, q4⟩
  refine ⟨_, _, _, _, rfl, (hS4.all a).mono ?_⟩
  rintro e w5 ⟨rfl, hS5, q5⟩
  refine ⟨_, _, _, rfl, al_new fun w6 b6 e6 z6 h6 q6 => hb_st0 h6 (by simp) fun w7 h7 k7 => hb_st (j := 1) h7 (by simp) fun w8 h8 k8 => ?_⟩
  have hs4 := q4.size; have hs5 := q5.size
  have hl8 := ((((hl4.below q5).below q6).st k7 h6 (by decide)).st k8 h7 (by decide))
  have hS8 := (hS5.below q6).keeps (k7.trans k8) (by omega) (by omega) (fun a ha => by have := (has a ha).1; omega) (by omega)
  refine (hS8.size a).mono ?_
  rintro e w9 ⟨rfl, hS9, q9⟩
  have hl9 := hl8.below q9
  have h9 : HB w9 b6 #[.int .i64 (allE m.n m.rows m.V a).1, .int .i64 (allE m.n m.rows m.V a).2.1] 27 := h8.below q9
  refine ⟨_, _, rfl, ?_⟩
  cases hbd : Bd m.n a with
  | true =>
    have e1 : listE m.n m.rows a = ([], 150) := by simp [listE, hbd]
    have e2 : allE m.n m.rows m.V a = (0, 0, 150) := by simp [allE, hbd]
    have e3 : sizeE m.n m.rows a = (0, 150) := by simp [sizeE, hbd]
    rw [e1, e2, e3]
    rw [e2] at h9
    refine sel_f rfl (sel_f rfl (sel_f rfl (sel_t rfl (sel_t rfl (hb_ldI0 h9 rfl (hb_ldI (j := 1) h9 rfl ?_))))))
    exact ⟨rfl, hS9.bel⟩
  | false =>
    obtain ⟨x, rfl, ex, hx⟩ := Bd_nat hbd
    obtain ⟨len1, nd1, xm, rng⟩ := rok.rlen hx
    have e1 : listE m.n m.rows (x : Int) = (rowOf m.rows x, 0) := by simp [listE, hbd]
    have e2 : allE m.n m.rows m.V (x : Int) = ((sm m.V (rowOf m.rows x)).1, (sm m.V (rowOf m.rows x)).2, 0) := by simp [allE, hbd]
    have e3 : sizeE m.n m.rows (x : Int) = (((rowOf m.rows x).length : Int), 0) := by simp [sizeE, hbd]
    rw [e1] at hl9
    rw [e1, e2, e3]
    rw [e2] at h9
    refine sel_f rfl (sel_f rfl (sel_f (by simp) (sel_f rfl (al_new fun w10 b10 e10 z10 h10 q10 => hb_st0 h10 (by simp) fun w11 h11 k11 => hb_st (j := 1) h11 (by simp) fun w12 h12 k12 => ?_))))
    have hs9 := h9.lt
    have hs9' := q9.size
    have hb6 : r3.R < b6 ∧ r3.g < b6 ∧ w.heap.size ≤ b6 := by omega
    have hAs6 : ∀ a, r3.As = some a → a.block < b6 := fun a ha => by have := (has a ha).1; omega
    have hb10 : b6 < b10 := by omega
    have hAs10 : ∀ a, r3.As = some a → a.block < b10 := fun a ha => by have := hAs6 a ha; omega
    have hl12 := (((hl9.below q10).st k11 h10 (by decide)).st k12 h11 (by decide))
    have k1112 := k11.trans k12
    have hS12 := (hS9.below q10).keeps k1112 (by omega) (by omega) (fun a ha => by have := hAs10 a ha; omega) (by omega)
    have h9' := (h9.below q10).keeps k1112 (by omega)
    refine ⟨_, Sums_l1 (b35 := b6) (b44 := b10) rng (by omega) (by omega) hAs10 ?_ (rowOf m.rows x).length 0 w12 rfl (by omega) hS12 hl12 h9' (by rw [List.take_zero, sm_nil]; exact h12)⟩
    intro w13 hS13 h13 g13 _
    refine hb_ldI0 h13 rfl (hb_ldI (j := 1) h13 rfl (hb_ldI0 g13 rfl (hb_ldI (j := 1) g13 rfl (sel_f (by simp) ((hS13.all b).mono ?_)))))
    rintro e w14 ⟨rfl, hS14, q14⟩
    have h14 := h13.below q14
    refine ⟨_, _, _, rfl, al_new fun w15 b15 e15 z15 h15 q15 => hb_st0 h15 (by simp) fun w16 h16 k16 => hb_st (j := 1) h16 (by simp) fun w17 h17 k17 => ?_⟩
    have hz14 := h14.lt
    have k1617 := k16.trans k17
    have hS17 := (hS14.below q15).keeps k1617 (by omega) (by omega) (fun a ha => by have := hAs6 a ha; omega) (by omega)
    have o17 : HB w17 b15 #[.int .i64 (allE m.n m.rows m.V b).1, .int .i64 (allE m.n m.rows m.V b).2.1] 27 := h17
    have h17' := (h14.below q15).keeps k1617 (by omega)
    refine (hS17.same (x : Int) b).mono ?_
    rintro e w18 ⟨rfl, hS18, q18⟩
    refine ⟨_, _, rfl, (hS18.value (x : Int)).mono ?_⟩
    rintro e w19 ⟨rfl, hS19, q19⟩
    have e4 : valueE m.n m.V (x : Int) = ((m.V x).1, (m.V x).2, 0) := by simp [valueE, hbd]
    rw [e4]
    have h19 := (h17'.below q18).below q19; have o19 := (o17.below q18).below q19
    refine ⟨_, _, _, rfl, al_new fun w20 b20 e20 z20 h20 q20 => hb_st0 h20 (by simp) fun w21 h21 k21 => hb_st (j := 1) h21 (by simp) fun w22 h22 k22 => ?_⟩
    have hz19 := h19.lt; have ho19 := o19.lt
    have k2122 := k21.trans k22
    have hS22 := (hS19.below q20).keeps k2122 (by omega) (by omega) (fun a ha => by have := hAs6 a ha; omega) (by omega)
    have s22 := (h19.below q20).keeps k2122 (by omega); have o22 := (o19.below q20).keeps k2122 (by omega)
    have v22 : HB w22 b20 #[.int .i64 (m.V x).1, .int .i64 (m.V x).2] 27 := h22
    refine hb_ldI (j := 1) v22 rfl ((hS22.set (x : Int) v (m.V x).2 hv (hS22.marks x hx.1 hx.2)).mono ?_)
    rintro e w23 ⟨rfl, hS23, k23⟩
    have s23 := s22.keeps k23 (by rintro (e | e) <;> omega); have o23 := o22.keeps k23 (by rintro (e | e) <;> omega); have v23 := v22.keeps k23 (by rintro (e | e) <;> omega)
    have e5 : cutE m.n (x : Int) = 0 := by simp [cutE, hbd]
    rw [e5]
    refine ⟨_, rfl, sel_f rfl ((hS23.all (x : Int)).mono ?_)⟩
    have e6 : setV m.n m.V (x : Int) v (m.V x).2 = fun i => if i = x then (v, (m.V x).2) else m.V i := by simp [setV, hbd]
    rw [e6] at hS23 ⊢
    rintro e w24 ⟨rfl, hS24, q24⟩
    have e7 : allE m.n m.rows (fun i => if i = x then (v, (m.V x).2) else m.V i) (x : Int) = (IntKind.i64.wrap (IntKind.i64.wrap ((sm m.V (rowOf m.rows x)).1 - (m.V x).1) + v), (sm m.V (rowOf m.rows x)).2, 0) := by
      simp only [allE, hbd, Bool.false_eq_true, if_false, ex, sm_upd m.V x v nd1 xm]
    show ∃ _ _ _, _ ∧ _
    simp only [e7]
    have s24 := s23.below q24; have o24 := o23.below q24; have v24 := v23.below q24
    refine ⟨_, _, _, rfl, al_new fun w25 b25 e25 z25 h25 q25 => hb_st0 h25 (by simp) fun w26 h26 k26 => hb_st (j := 1) h26 (by simp) fun w27 h27 k27 => ?_⟩
    have hzs := s24.lt; have hzo := o24.lt; have hzv := v24.lt
    have k2627 := k26.trans k27
    have hS27 := (hS24.below q25).keeps k2627 (by omega) (by omega) (fun a ha => by have := hAs6 a ha; omega) (by omega)
    have s27 := (s24.below q25).keeps k2627 (by omega); have o27 := (o24.below q25).keeps k2627 (by omega); have v27 := (v24.below q25).keeps k2627 (by omega)
    refine (hS27.all b).mono ?_
    rintro e w28 ⟨rfl, hS28, q28⟩
    have s28 := s27.below q28; have o28 := o27.below q28; have v28 := v27.below q28; have n28 := h27.below q28
    refine ⟨_, _, _, rfl, al_new fun w29 b29 e29 z29 h29 q29 => hb_st0 h29 (by simp) fun w30 h30 k30 => hb_st (j := 1) h30 (by simp) fun w31 h31 k31 => ?_⟩
    have hzs := s28.lt; have hzo := o28.lt; have hzv := v28.lt; have hzn := n28.lt
    have k3031 := k30.trans k31
    have hS31 := (hS28.below q29).keeps k3031 (by omega) (by omega) (fun a ha => by have := hAs6 a ha; omega) (by omega)
    have s31 := (s28.below q29).keeps k3031 (by omega); have o31 := (o28.below q29).keeps k3031 (by omega); have v31 := (v28.below q29).keeps k3031 (by omega); have n31 := (n28.below q29).keeps k3031 (by omega)
    refine hb_ldI0 n31 rfl (hb_ldI0 s31 rfl (hb_ldI0 v31 rfl (sel_t (by simp) (hb_ldI (j := 1) n31 rfl (hb_ldI (j := 1) s31 rfl (sel_t (by simp) ?_))))))
    cases hsm : (sameE m.n m.rows (x : Int) b).1 with
    | true => exact sel_t rfl ⟨trivial, hS31.bel⟩
    | false =>
      refine sel_f rfl (hb_ldI0 h31 rfl (hb_ldI (j := 1) h31 rfl (hb_ldI0 o31 rfl (hb_ldI (j := 1) o31 rfl ⟨?_, hS31.bel⟩))))
      have : allE m.n m.rows (fun i => if i = x then (v, (m.V x).2) else m.V i) b = allE m.n m.rows m.V b := by
        unfold allE
        cases hb' : Bd m.n b with
        | true => rfl
        | false =>
          obtain ⟨y, rfl, ey, hy⟩ := Bd_nat hb'
          simp only [sameE, hbd, hb', Bool.or_self, Bool.false_eq_true, if_false, ex, ey, decide_eq_false_iff_not] at hsm
          have hxy : x ∉ rowOf m.rows y := fun hh => hsm (rok.rowOf_eq (rok.rowOf_mem hy).1 hh)
          simp only [Bool.false_eq_true, if_false, ey, sm_out m.V x _ hxy]
      rw [this]; simp
theorem TreapSums_row {w : World} {A0 A1 : Option Addr} {n0 n1 c0 c1 : Nat} {zs : List Int} {f : Nat → Nat → Int} {a b v : Int} (h0 : IsRow .i64 w A0 n0 c0 zs) (s0 : n0 * 8 ≤ 140737488351232) (h1 : IsRecs ks5 w A1 n1 c1 f) (wa : (Lit.int .i64 a).wf = true) (wb : (Lit.int .i64 b).wf = true) (wv : (Lit.int .i64 v).wf = true) :
    Calls Try.prog 5 #[.slice A0 n0 c0, .slice A1 n1 c1, .int .i64 a, .int .i64 b, .int .i64 v] w fun e w' => e = .returned (.bool true) ∧ Below w.heap.size w w' := by
  obtain ⟨l, hr, e1, e2⟩ : ∃ l : List Int, RI w A0 l ∧ n0 = l.length ∧ (A0 = none → l.length = 0 ∧ c0 = 0) := by
    rcases h0 with ⟨rfl, rfl, rfl, rfl⟩ | ⟨x, rfl, hl, hm, hz, hc, hw⟩
    · exact ⟨[], RI.nil _ _, rfl, fun _ => ⟨rfl, rfl⟩⟩
    · refine ⟨zs.take n0, ?_, by simp; omega, fun h => by cases h⟩
      intro i hi
      rw [List.length_take] at hi
      refine ⟨x, rfl, ?_⟩
      rw [hc i (by omega), List.getElem_take]
      congr 2
      simp [List.getD_eq_getElem?_getD, show i < zs.length by omega]
  exact TreapSums_walk hr e1 e2 (by omega) h1 a b v (wf_i64 wv)
end Go.Proofs.Ytnfgibbkfkaonaa.Rd
