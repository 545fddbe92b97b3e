/- The document's common, put, Touch, Begin, walked. Conditions: none. -/
import Derived.Test.YtbfcjnbjhpfdfaaMvG
namespace Go.Dn
open Go.RowKit
set_option linter.unusedVariables false
def RO (w w' : World) (G : Nat → Prop) (A' : Option Addr) (l : List Tx) : Prop := ∃ G', RTb w' G' A' l ∧ (∀ k, G' k → G k ∨ w.heap.size ≤ k) ∧ Below w.heap.size w w'
theorem RO.of {w w' : World} {G : Nat → Prop} {A : Option Addr} {l : List Tx} (h : RTb w G A l) (hb : Below w.heap.size w w') : RO w w' G A l := ⟨G, h.below hb, fun k hk => .inl hk, hb⟩
theorem RO.after {w w1 w' : World} {G : Nat → Prop} {A : Option Addr} {l : List Tx} (hb : Below w.heap.size w w1) (h : RO w1 w' G A l) : RO w w' G A l := by
  obtain ⟨G', h1, h2, h3⟩ := h
  have := hb.size
  exact ⟨G', h1, fun k hk => (h2 k hk).imp id fun h => by omega, hb.trans (h3.mono this)⟩
theorem RO.then {w w1 w' : World} {G : Nat → Prop} {A : Option Addr} {l : List Tx} (h : RO w w1 G A l) {S : Nat → Prop} (hk : Keeps S w1 w') (hS : ∀ k, S k → w.heap.size ≤ k ∧ k < w1.heap.size → False) (hS2 : ∀ k, S k → w.heap.size ≤ k) : RO w w' G A l := by
  obtain ⟨G', h1, h2, h3⟩ := h
  have hlt : ∀ k, G' k → k < w1.heap.size := by
    obtain ⟨ms, _, r⟩ := h1
    exact r.lt
  exact ⟨G', h1.keeps hk fun k hk' hs => hS k hs ⟨hS2 k hs, hlt k hk'⟩, h2, h3.trans (hk.below h3.size fun k hk' hs => by have := hS2 k hs; omega)⟩
theorem take_set {α : Type} {l : List α} {p : Nat} {x : α} {i : Nat} (hi : i < l.length) : (l.set p x).take (i + 1) = (l.set p x).take i ++ [if p = i then x else l[i]] := by
  have hi' : i < (l.set p x).length := by rw [List.length_set]; exact hi
  rw [List.take_succ_eq_append_getElem hi', List.getElem_set]
end Go.Dn
namespace Go.Proofs.Ytbfcjnbjhpfdfaa.Rd
open Go.Dn Go.RowKit
set_option linter.unusedVariables false
set_option maxRecDepth 100000
/-! ### common -/
theorem common_l1 {A1 A2 : Option Addr} {c1 c2 : Nat} {l1 l2 : List Rf} (hm : (l2.length : Int) ≤ 9223372036854775807) {i : Nat} (hi : i < l1.length) {K2 : World → Prop} {Kr : Bool → World → Prop} {w0 : World} (r1 : RR w0 A1 l1) (r2 : RR w0 A2 l2)
    (h2 : ∀ w, Keeps (fun _ => False) w0 w → l1[i] ∉ l2 → K2 w) (h1 : ∀ w, Keeps (fun _ => False) w0 w → l1[i] ∈ l2 → Kr true w) : ∀ (N j : Nat) (w : World), l2.length - j = N → j ≤ l2.length → Keeps (fun _ => False) w0 w → (l1[i] ∈ l2 → l1[i] ∈ l2.drop j) →
      f_ref14_common.l1 (N + 1) A1 l1.length c1 A2 l2.length c2 (i : Int) (j : Int) w K2 Kr
  | N, j, w, hN, hj, hk, hd => by
    unfold f_ref14_common.l1
    by_cases hlt : j < l2.length
    · cases N with
      | zero => omega
      | succ N =>
        obtain ⟨a1, rfl, p1, p2⟩ := (r1.keeps hk.drew fun _ _ => id) i hi
        obtain ⟨a2, rfl, q1, q2⟩ := (r2.keeps hk.drew fun _ _ => id) j hlt
        refine sel_t (by simpa using hlt) (drW_intro (optB_some rfl (req_intro (by simp; omega) ?_)))
        rw [Int.toNat_natCast]
        refine ⟨_, p1, ldI_intro p2 (optB_some rfl (req_intro (by simp; omega) ?_))⟩
        rw [Int.toNat_natCast]
        refine ⟨_, q1, ldI_intro q2 ?_⟩
        by_cases he : l1[i] = l2[j]
        · refine sel_t (by rw [he]; simp) (h1 _ hk.drew (by rw [he]; exact List.getElem_mem hlt))
        · refine sel_f ?_ ?_
          · rw [Bool.eq_false_iff]
            intro hh
            simp only [Bool.and_true, Bool.and_eq_true, beq_iff_eq] at hh
            exact he (Prod.ext hh.1 hh.2)
          · rw [i64n (by omega)]
            refine common_l1 hm hi r1 r2 h2 h1 N (j + 1) _ (by omega) (by omega) hk.drew fun hin => ?_
            have := hd hin
            rw [List.drop_eq_getElem_cons hlt, List.mem_cons] at this
            exact this.resolve_left he
    · refine sel_f (by simpa using hlt) (h2 w hk fun hin => ?_)
      have := hd hin
      rw [List.drop_eq_nil_of_le (by omega)] at this
      cases this
theorem common_l0 {A1 A2 : Option Addr} {c1 c2 : Nat} {l1 l2 : List Rf} (hm1 : (l1.length : Int) ≤ 9223372036854775807) (hm : (l2.length : Int) ≤ 9223372036854775807) {K0 : World → Prop} {Kr : Bool → World → Prop} {w0 : World} (r1 : RR w0 A1 l1) (r2 : RR w0 A2 l2)
    (h2 : ∀ w, Keeps (fun _ => False) w0 w → (∀ r ∈ l1, r ∉ l2) → K0 w) (h1 : ∀ w, Keeps (fun _ => False) w0 w → (∃ r ∈ l1, r ∈ l2) → Kr true w) : ∀ (N i : Nat) (w : World), l1.length - i = N → i ≤ l1.length → Keeps (fun _ => False) w0 w → (∀ r ∈ l1.take i, r ∉ l2) →
      f_ref14_common.l0 (N + 1) A1 l1.length c1 A2 l2.length c2 (i : Int) w K0 Kr
  | N, i, w, hN, hi, hk, hd => by
    unfold f_ref14_common.l0
    by_cases hlt : i < l1.length
    · cases N with
      | zero => omega
      | succ N =>
        refine sel_t (by simpa using hlt) ⟨_, common_l1 hm hlt r1 r2 (w0 := w0) (fun w' k' hno _ => ?_) (fun w' k' hin _ => h1 w' k' ⟨_, List.getElem_mem hlt, hin⟩) _ 0 w rfl (by omega) hk fun h => h⟩
        rw [i64n (by omega)]
        refine common_l0 hm1 hm r1 r2 h2 h1 N (i + 1) w' (by omega) (by omega) k' fun r hr => ?_
        rw [List.take_succ_eq_append_getElem hlt] at hr
        rcases List.mem_append.1 hr with hr | hr
        · exact hd r hr
        · have : r = l1[i] := by simpa using hr
          rw [this]; exact hno
    · refine sel_f (by simpa using hlt) (h2 w hk fun r hr => hd r ?_)
      rw [List.take_of_length_le (by omega)]; exact hr
theorem common_ok {w : World} {A1 A2 : Option Addr} {c1 c2 : Nat} {l1 l2 : List Rf} (hm1 : (l1.length : Int) ≤ 9223372036854775807) (hm : (l2.length : Int) ≤ 9223372036854775807) (r1 : RR w A1 l1) (r2 : RR w A2 l2) :
    Calls Try.prog 36 #[.slice A1 l1.length c1, .slice A2 l2.length c2] w fun e w' => e = .returned (.bool (common l1 l2)) ∧ Keeps (fun _ => False) w w' := by
  apply f_ref14_common.ok
  refine ⟨_, common_l0 hm1 hm r1 r2 (fun w' k' hno _ => ⟨?_, k'⟩) (fun w' k' hin _ => ⟨?_, k'⟩) _ 0 w rfl (by omega) (.refl _ _) (by simp)⟩
  · have : common l1 l2 = false := Bool.eq_false_iff.2 fun h => by
      obtain ⟨r, h1, h2⟩ := common_iff.1 h
      exact hno r h1 h2
    rw [this]
  · rw [common_iff.2 hin]
/-! ### put -/
variable {w : World} {G : Nat → Prop} {A : Option Addr} {c : Nat} {t : Tb}
theorem put_loop {G : Nat → Prop} {A : Option Addr} {c : Nat} {b b3 : Nat} {cs : Array Value} {tb : TypeId} {ms : List TxM} {w0 : World} {n : Int} {x : TxM} {tb3 : TypeId} {K0 : Option Addr → Nat → Nat → World → Prop} (hcs : cs[0]? = some (.slice A ms.length c)) (hlen : ms.length ≤ 1048576) (hn : 1 ≤ n) (hn2 : n ≤ 9223372036854775807) :
    ∀ (N i : Nat) (w : World) (A1 : Option Addr) (c1 : Nat), ms.length - i = N → i ≤ ms.length → HB w b cs tb → HB w b3 #[.int .i64 x.start, .slice x.A x.tk.length x.c, .bool x.live, .int .i64 x.at_] tb3 → RowE txE 4 w A ms → (∀ a, A = some a → G a.block) → (∀ k, G k → k < w0.heap.size) → OwnE txE 4 w w0.heap.size 73 A1 c1 ((ms.set (n - 1).toNat x).take i) → w0.heap.size ≤ w.heap.size → (∀ a, A1 = some a → a.block ≠ b ∧ a.block ≠ b3) →
      (∀ A' c' w', OwnE txE 4 w' w0.heap.size 73 A' c' (ms.set (n - 1).toNat x) → Keeps (Ob A1) w w' → (∀ a, A' = some a → A1 = some a ∨ w.heap.size ≤ a.block) → K0 A' ms.length c' w') →
      f_ref14_put.l0 (N + 1) n ⟨b, 0, none⟩ ⟨b3, 0, none⟩ A1 i c1 (i : Int) w K0
  | N, i, w, A1, c1, hN, hi, hb, hb3, hr, hG, hGl, ho, hw, hd, hK => by
    unfold f_ref14_put.l0
    refine hb_ldS0 hb hcs ?_
    have hl1 : ((ms.set (n - 1).toNat x).take i).length = i := by rw [List.length_take, List.length_set]; omega
    by_cases hlt : i < ms.length
    · cases N with
      | zero => omega
      | succ N =>
        refine sel_t (by simpa using hlt) ?_
        have hstep := take_set (l := ms) (p := (n - 1).toNat) (x := x) hlt
        have go : ∀ (y : TxM), y = (if (n - 1).toNat = i then x else ms[i]) → alW w (.cells #[.int .i64 y.start, .slice y.A y.tk.length y.c, .bool y.live, .int .i64 y.at_] 73) fun bb w2 => Runs Try.prog (Builtin.append_ #[26, 26] 26 #[.slice A1 i c1, .slice (some (⟨bb, 0, none⟩ : Addr)) 1 1]) w2 fun v w3 => ∃ (A' : Option Addr) (n' : Nat) (c' : Nat), v = (.slice A' n' c') ∧
            f_ref14_put.l0 (N + 1) n ⟨b, 0, none⟩ ⟨b3, 0, none⟩ A' n' c' (IntKind.i64.wrap ((i : Int) + 1)) w3 K0 := by
          intro y hy
          rw [i64n (by omega)]
          refine put_e RTtx Etx (by decide) ho hl1.symm y rfl hw (by rw [hl1]; omega) fun A2 c2 w2 o2 k2 f2 => ?_
          rw [hy, ← hstep] at o2
          have e1 : ((ms.set (n - 1).toNat x).take i ++ [y]).length = i + 1 := by rw [List.length_append, hl1]; rfl
          rw [e1]
          have hbl := hb.lt
          have hb3l := hb3.lt
          refine put_loop hcs hlen hn hn2 N (i + 1) w2 (some A2) c2 (by omega) (by omega) (hb.keeps k2 fun ⟨a, ha, e⟩ => (hd a ha).1 e) (hb3.keeps k2 fun ⟨a, ha, e⟩ => (hd a ha).2 e) (hr.keeps Etx k2 fun a ha ⟨a', ha', e⟩ => ?_) hG hGl o2 (Nat.le_trans hw k2.size) (fun a ha => ?_) fun A' c' w' o' k' f' => hK A' c' w' o' (k2.trans' k' fun k hk ⟨a, ha, e⟩ => ?_) fun a ha => ?_
          · have h1 := hGl _ (hG a ha)
            have h2 := (ho.block a' ha').1
            omega
          · injection ha with ha; subst ha
            rcases f2 with f2 | f2
            · exact hd _ f2
            · exact ⟨by omega, by omega⟩
          · injection ha with ha; subst ha
            rcases f2 with f2 | f2
            · exact ⟨_, f2, e⟩
            · omega
          · have hs := k2.size
            rcases f' a ha with h | h
            · injection h with h; subst h
              rcases f2 with f2 | f2
              · exact .inl f2
              · exact .inr f2
            · exact .inr (by omega)
        by_cases he : (n - 1).toNat = i
        · refine sel_t (by rw [i64p hn hn2]; simp; omega) (hb_ldI0 hb3 rfl (hb_ldS (j := 1) hb3 rfl (hb_ldB (j := 2) hb3 rfl (hb_ldI (j := 3) hb3 rfl (go x (by rw [if_pos he]))))))
        · refine sel_f (by rw [i64p hn hn2]; simp; omega) (hb_ldS0 hb hcs ?_)
          obtain ⟨a, rfl⟩ := hr.addr (by omega)
          refine optB_some rfl (req_intro (by simp; omega) ?_)
          rw [Int.toNat_natCast]
          exact ldI_intro (tx_c0 hr hlt) (ldS_intro (tx_c1 hr hlt) ⟨_, tx_c2 hr hlt, ldI_intro (tx_c3 hr hlt) (go ms[i] (by rw [if_neg he]))⟩)
    · refine sel_f (by simpa using hlt) ?_
      have e : i = ms.length := by omega
      subst e
      rw [List.take_of_length_le (by rw [List.length_set]; exact Nat.le_refl _)] at ho
      exact hK A1 c1 w ho (.refl _ _) fun a ha => .inl ha
theorem RPut_ok (h : RTb w G A t.txs) (hlen : t.txs.length ≤ 1048576) {n : Int} (hn : 1 ≤ n) (hn2 : n ≤ 9223372036854775807) {x : TxM} (hx : RR w x.A x.tk) (hxG : ∀ a, x.A = some a → G a.block) :
    Calls Try.prog 35 #[tbV A t.txs.length c t.last, .int .i64 n, .agg #[.int .i64 x.start, .slice x.A x.tk.length x.c, .bool x.live, .int .i64 x.at_]] w fun e w' => ∃ A' c', e = .returned (tbV A' (t.put n x.tx).txs.length c' t.last) ∧ RO w w' G A' (t.put n x.tx).txs := by
  obtain ⟨ms, hm, h⟩ := h
  have hl : t.txs.length = ms.length := by rw [← hm, List.length_map]
  rw [hl] at hlen ⊢
  have hput : (t.put n x.tx).txs = (ms.set (n - 1).toNat x).map TxM.tx := by
    unfold Tb.put
    rw [List.map_set, hm]
  apply f_ref14_put.ok
  refine al_new fun w1 b1 e1 s1 h1 g1 => al_new fun w3 b3 e3 s3 h3 g3 => al_new fun w5 b5 e5 s5 h5 g5 => alW_intro ?_
  have sz1 := g1.size
  have sz3 := g3.size
  have sz5 := g5.size
  have g0 : Below w.heap.size w w5 := (g1.trans (g3.mono (by omega))).trans (g5.mono (by omega))
  have o7 := OwnE.empty (enc := txE) (k := 4) (w := w5) (B := w.heap.size) (e := 73) (by omega)
  have g7 : Below w5.heap.size w5 (w5.alloc (.cells #[] 73)) := (Below.refl _ _).alloc (Nat.le_refl _) _
  have s7 : (w5.alloc (.cells #[] 73)).heap.size = w5.heap.size + 1 := by simp
  generalize w5.alloc (.cells #[] 73) = w7 at o7 g7 s7
  have h17 := ((h1.below g3).below g5).below g7
  have h37 := (h3.below g5).below g7
  have h57 := h5.below g7
  have r7 := ((((h.below g1).below g3).below g5).below g7)
  refine ⟨_, put_loop (w0 := w) (ms := ms) (x := x) (n := n) (A := A) rfl hlen hn hn2 ms.length 0 w7 _ 0 (by omega) (by omega) h17 h37 r7.row h.gA h.lt (by rw [List.take_zero]; exact o7) (by omega) (fun a ha => ?_) fun A' c' w' o' k' f' => ?_⟩
  · injection ha with ha; subst ha
    exact ⟨by simp only; omega, by simp only; omega⟩
  · intro _
    have hob : ∀ k, Ob (some ⟨w5.heap.size, 0, none⟩) k → k = w5.heap.size := fun k ⟨a, ha, e⟩ => by injection ha with ha; subst ha; exact e.symm
    have h1' := h17.keeps k' fun hh => by have := hob _ hh; omega
    have h5' := h57.keeps k' fun hh => by have := hob _ hh; omega
    refine hb_st0 h1' (by simp) fun w8 h8 k8 => hb_ldS0 h8 rfl (hb_ldI (j := 1) h8 rfl (out2 (h5'.keeps k8 (by omega)) rfl fun w9 k9 _ => ⟨A', c', ?_, ?_⟩))
    · rw [hput, List.length_map, List.length_set]; rfl
    · have hA' : ∀ a, A' = some a → w5.heap.size ≤ a.block := fun a ha => by
        rcases f' a ha with h | h
        · injection h with h; subst h; exact Nat.le_refl _
        · omega
      have kk : Keeps (fun k => k = b1 ∨ k = b5 ∨ k = w5.heap.size) w7 w9 := ((k'.mono fun k _ h => .inr (.inr (hob k h))).trans (k8.mono fun k _ h => .inl h)).trans (k9.mono fun k _ h => .inr (.inl h))
      have kw : Keeps (fun _ => False) w w9 := (Keeps.of_below (g0.trans (g7.mono (by omega)))).trans' kk fun k hk h => by omega
      have hr9 : RowE txE 4 w9 A' (ms.set (n - 1).toNat x) := (o'.reads Etx).keeps Etx ((k8.mono (S' := fun k => k = b1 ∨ k = b5) fun k _ h => .inl h).trans (k9.mono fun k _ h => .inr h)) fun a ha hh => by
        have := hA' a ha
        omega
      refine ⟨fun k => G k ∨ ∃ a, A' = some a ∧ a.block = k, ⟨ms.set (n - 1).toNat x, hput.symm, hr9, fun a ha => .inr ⟨a, ha, rfl⟩, fun m hmm => ?_, fun k hk => ?_⟩, fun k hk => ?_, kw.below (Nat.le_refl _) fun _ _ => id⟩
      · have := List.mem_or_eq_of_mem_set hmm
        rcases this with hh | hh
        · exact ⟨(h.rf m hh).1.keeps kw fun _ _ => id, fun a ha => .inl ((h.rf m hh).2 a ha)⟩
        · subst hh
          exact ⟨hx.keeps kw fun _ _ => id, fun a ha => .inl (hxG a ha)⟩
      · rcases hk with hk | ⟨a, ha, e⟩
        · have := h.lt k hk; have := kw.size; omega
        · have h1 := (o'.block a ha).2
          have h2 := k8.size
          have h3 := k9.size
          omega
      · rcases hk with hk | ⟨a, ha, e⟩
        · exact .inl hk
        · exact .inr (by have := hA' a ha; omega)
end Go.Proofs.Ytbfcjnbjhpfdfaa.Rd
