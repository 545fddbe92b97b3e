/- The document's Touch, Begin, walked. Conditions: none. -/
import Derived.Test.YtbfcjnbjhpfdfaaMvH
namespace Go.Dn
open Go.RowKit
set_option linter.unusedVariables false
theorem RT.mono {w : World} {G G' : Nat → Prop} {A : Option Addr} {ms : List TxM} (h : RT w G A ms) (hG : ∀ k, G k → G' k) (hl : ∀ k, G' k → k < w.heap.size) : RT w G' A ms :=
  ⟨h.row, fun a ha => hG _ (h.gA a ha), fun m hm => ⟨(h.rf m hm).1, fun a ha => hG _ ((h.rf m hm).2 a ha)⟩, hl⟩
theorem RTb.mono {w : World} {G G' : Nat → Prop} {A : Option Addr} {l : List Tx} (h : RTb w G A l) (hG : ∀ k, G k → G' k) (hl : ∀ k, G' k → k < w.heap.size) : RTb w G' A l := by
  obtain ⟨ms, h1, h2⟩ := h
  exact ⟨ms, h1, h2.mono hG hl⟩
theorem RO.wide {w w1 w' : World} {G G1 S : Nat → Prop} {A : Option Addr} {l : List Tx} (h : RO w w1 G1 A l) (hk : Keeps S w1 w') {w0 : World} (hS : ∀ k, S k → ¬ G1 k ∧ k < w.heap.size ∧ w0.heap.size ≤ k) (hG : ∀ k, G1 k → G k ∨ w0.heap.size ≤ k) (hb : Below w0.heap.size w0 w) : RO w0 w' G A l := by
  obtain ⟨G', h1, h2, h3⟩ := h
  have := hb.size
  have := h3.size
  refine ⟨G', h1.keeps hk fun k hk' hs => ?_, fun k hk => (h2 k hk).elim (hG k) fun h => .inr (by omega), (hb.trans (h3.mono (by omega))).trans (hk.below (by omega) fun k hk' hs => by have := (hS k hs).2.2; omega)⟩
  obtain ⟨a, b, c⟩ := hS k hs
  rcases h2 k hk' with h | h
  · exact a h
  · omega
theorem take_app {α : Type} {l : List α} {i : Nat} (hi : i < l.length) : l.take (i + 1) = l.take i ++ [l[i]] := List.take_succ_eq_append_getElem hi
end Go.Dn
namespace Go.Proofs.Ytbfcjnbjhpfdfaa.Rd
open Go.Dn Go.RowKit
set_option linter.unusedVariables false
set_option maxRecDepth 100000
theorem tcopy0 {b : Nat} {cs : Array Value} {tb : TypeId} {A : Option Addr} {c : Nat} {l : List Rf} (hcs : cs[1]? = some (.slice A l.length c)) (hsz : l.length * 16 ≤ 140737488355328) {B0 : Nat} (hbB : b < B0) (hAB : ∀ a, A = some a → a.block < B0) {K0 : Option Addr → Nat → Nat → World → Prop} :
    ∀ (N i : Nat) (w : World) (A1 : Option Addr) (c1 : Nat), l.length - i = N → i ≤ l.length → HB w b cs tb → RR w A l → OwnE rfE 2 w B0 62 A1 c1 (l.take i) → B0 ≤ w.heap.size →
      (∀ A' c' w', OwnE rfE 2 w' B0 62 A' c' l → Keeps (Ob A1) w w' → (∀ a, A' = some a → A1 = some a ∨ w.heap.size ≤ a.block) → K0 A' l.length c' w') → f_ref14_Touch.l0 (N + 1) ⟨b, 0, none⟩ A1 i c1 (i : Int) w K0
  | N, i, w, A1, c1, hN, hi, hb, hR, ho, hw, hK => by
    unfold f_ref14_Touch.l0
    refine hb_ldS (j := 1) hb hcs ?_
    have hl1 : (l.take i).length = i := by rw [List.length_take]; omega
    by_cases hlt : i < l.length
    · cases N with
      | zero => omega
      | succ N =>
        obtain ⟨a, rfl, p1, p2⟩ := hR i hlt
        refine sel_t (by simpa using hlt) (hb_ldS (j := 1) hb hcs (optB_some rfl (req_intro (by simp; omega) ?_)))
        rw [Int.toNat_natCast, i64n (by omega)]
        refine ⟨_, p1, ldI_intro p2 (put_e RTrf Erf (by decide) ho hl1.symm l[i] rfl hw (by rw [hl1]; omega) fun A2 c2 w2 o2 k2 f2 => ?_)⟩
        rw [← take_app hlt] at o2
        have e1 : (l.take i ++ [l[i]]).length = i + 1 := by rw [List.length_append, hl1]; rfl
        rw [e1]
        have hs := k2.size
        refine tcopy0 hcs hsz hbB hAB N (i + 1) w2 (some A2) c2 (by omega) (by omega) (hb.keeps k2 fun ⟨a', ha, e⟩ => by have := (ho.block a' ha).1; omega) (hR.keeps k2 fun g hg ⟨a', ha, e⟩ => by have := (ho.block a' ha).1; have := hAB g hg; omega) o2 (by omega) fun A' c' w' o' k' f' => hK A' c' w' o' (k2.trans' k' fun k hk ⟨a', ha, e⟩ => ?_) fun a' ha => ?_
        · injection ha with ha; subst ha
          rcases f2 with f2 | f2
          · exact ⟨_, f2, e⟩
          · omega
        · rcases f' a' ha with h | h
          · injection h with h; subst h; exact f2
          · exact .inr (by omega)
    · refine sel_f (by simpa using hlt) ?_
      have e : i = l.length := by omega
      subst e
      rw [List.take_of_length_le (Nat.le_refl _)] at ho
      exact hK A1 c1 w ho (.refl _ _) fun a ha => .inl ha
theorem tcopy1 {A : Option Addr} {c : Nat} {l pre : List Rf} (hsz : (pre.length + l.length) * 16 ≤ 140737488355328) {B0 : Nat} (hAB : l ≠ [] → ∀ a, A = some a → a.block < B0) {K0 : Option Addr → Nat → Nat → World → Prop} :
    ∀ (N i : Nat) (w : World) (A1 : Option Addr) (c1 : Nat), l.length - i = N → i ≤ l.length → RR w A l → OwnE rfE 2 w B0 62 A1 c1 (pre ++ l.take i) → B0 ≤ w.heap.size →
      (∀ A' c' w', OwnE rfE 2 w' B0 62 A' c' (pre ++ l) → Keeps (Ob A1) w w' → (∀ a, A' = some a → A1 = some a ∨ w.heap.size ≤ a.block) → K0 A' (pre ++ l).length c' w') → f_ref14_Touch.l1 (N + 1) A l.length c A1 (pre.length + i) c1 (i : Int) w K0
  | N, i, w, A1, c1, hN, hi, hR, ho, hw, hK => by
    unfold f_ref14_Touch.l1
    have hl1 : (pre ++ l.take i).length = pre.length + i := by rw [List.length_append, List.length_take]; omega
    by_cases hlt : i < l.length
    · cases N with
      | zero => omega
      | succ N =>
        obtain ⟨a, rfl, p1, p2⟩ := hR i hlt
        refine sel_t (by simpa using hlt) (optB_some rfl (req_intro (by simp; omega) ?_))
        rw [Int.toNat_natCast, i64n (by omega)]
        refine ⟨_, p1, ldI_intro p2 (put_e RTrf Erf (by decide) ho hl1.symm l[i] rfl hw (by rw [hl1]; omega) fun A2 c2 w2 o2 k2 f2 => ?_)⟩
        rw [List.append_assoc, ← take_app hlt] at o2
        have e1 : (pre ++ l.take i ++ [l[i]]).length = pre.length + (i + 1) := by rw [List.length_append, hl1]; rfl
        rw [e1]
        have hs := k2.size
        refine tcopy1 hsz hAB N (i + 1) w2 (some A2) c2 (by omega) (by omega) (hR.keeps k2 fun g hg ⟨a', ha, e⟩ => by have := (ho.block a' ha).1; have := hAB (List.ne_nil_of_length_pos (by omega)) g hg; omega) o2 (by omega) fun A' c' w' o' k' f' => hK A' c' w' o' (k2.trans' k' fun k hk ⟨a', ha, e⟩ => ?_) fun a' ha => ?_
        · injection ha with ha; subst ha
          rcases f2 with f2 | f2
          · exact ⟨_, f2, e⟩
          · omega
        · rcases f' a' ha with h | h
          · injection h with h; subst h; exact f2
          · exact .inr (by omega)
    · refine sel_f (by simpa using hlt) ?_
      have e : i = l.length := by omega
      subst e
      rw [List.take_of_length_le (Nat.le_refl _)] at ho
      rw [← List.length_append]
      exact hK A1 c1 w ho (.refl _ _) fun a ha => .inl ha
variable {w : World} {G : Nat → Prop} {A : Option Addr} {c : Nat} {t : Tb}
/-- the n-th, out of the row -/
theorem get_row (h : RTb w G A t.txs) {n : Int} {x : Tx} (hx : t.get n = some x) : ∃ (a : Addr) (m : TxM), A = some a ∧ m.tx = x ∧ (n - 1).toNat < t.txs.length ∧ w.cell? (a.add ((n - 1).toNat * 4)) = some (.int .i64 m.start) ∧ w.cell? ((a.add ((n - 1).toNat * 4)).add 1) = some (.slice m.A m.tk.length m.c) ∧
    w.cell? ((a.add ((n - 1).toNat * 4)).add 2) = some (.bool m.live) ∧ w.cell? ((a.add ((n - 1).toNat * 4)).add 3) = some (.int .i64 m.at_) ∧ RR w m.A m.tk ∧ (∀ a, m.A = some a → G a.block) := by
  obtain ⟨ms, hm, h⟩ := h
  obtain ⟨h1, h2, h3⟩ := Tb.get_some hx
  have hlt := (List.getElem?_eq_some_iff.1 h2).1
  have hl : t.txs.length = ms.length := by rw [← hm, List.length_map]
  have hi : (n - 1).toNat < ms.length := by omega
  obtain ⟨a, rfl⟩ := h.row.addr (by omega)
  rw [← hm, List.getElem?_map, List.getElem?_eq_getElem hi] at h2
  injection h2 with h2
  have hr := h.rf ms[(n - 1).toNat] (List.getElem_mem hi)
  exact ⟨a, ms[(n - 1).toNat], rfl, h2, by omega, tx_c0 h.row hi, tx_c1 h.row hi, tx_c2 h.row hi, tx_c3 h.row hi, hr.1, hr.2⟩
theorem RTouch_ok (h : RTb w G A t.txs) (hlen : t.txs.length ≤ 1048576) {n : Int} (hn : W64 n) {Ar : Option Addr} {cr : Nat} {refs : List Rf} (hr : RR w Ar refs) (hsz : ∀ x, t.get n = some x → (x.tk.length + refs.length) * 16 ≤ 140737488355328) (hrl : refs ≠ [] → ∀ a, Ar = some a → a.block < w.heap.size) :
    Calls Try.prog 26 #[tbV A t.txs.length c t.last, .int .i64 n, .slice Ar refs.length cr] w fun e w' => ∃ A' c', e = .returned (.tuple #[tbV A' (t.touch n refs).1.txs.length c' (t.touch n refs).1.last, .int .i64 (t.touch n refs).2]) ∧ RO w w' G A' (t.touch n refs).1.txs := by
  apply f_ref14_Touch.ok
  unfold f_ref14_Touch.wp
  refine al_new fun w1 b1 e1 s1 h1 g1 => al_new fun w2 b3 e3 s3 h3 g2 => hb_ldS0 (h1.below g2) rfl (hb_ldI (j := 1) (h1.below g2) rfl ?_)
  have sz1 := g1.size
  have sz2 := g2.size
  have h2 := (h.below g1).below g2
  refine (RIs_ok h2 hn).mono fun e w3 he => ?_
  obtain ⟨rfl, g3⟩ := he
  have sz3 := g3.size
  have g0 : Below w.heap.size w w3 := (g1.trans (g2.mono (by omega))).trans (g3.mono (by omega))
  have H3 := h.below g0
  have h13 := (h1.below g2).below g3
  have h33 := h3.below g3
  refine ⟨_, rfl, ?_⟩
  cases hx : t.get n with
  | none =>
    refine sel_t (by simp) (hb_ldS0 h13 rfl (hb_ldI (j := 1) h13 rfl (out2 h33 rfl fun w4 k4 _ => ?_)))
    unfold Tb.touch
    rw [hx]
    exact ⟨A, c, rfl, .of h (g0.trans (k4.below (by omega) fun k hk e => by omega))⟩
  | some x =>
    have hsz := hsz x hx
    obtain ⟨h5, h6, h7⟩ := Tb.get_some hx
    obtain ⟨a, m, rfl, hmx, hi, c0, c1, c2, c3, hR, hRG⟩ := get_row H3 hx
    have hlt3 : ∀ k, G k → k < w.heap.size := by obtain ⟨ms, _, r⟩ := h; exact r.lt
    have hk : m.tk = x.tk := by rw [← hmx]; rfl
    refine sel_f (by simp) (hb_ldS0 h13 rfl (optB_some rfl ?_))
    rw [i64p h5 hn.2]
    refine req_intro (by simp; omega) (ldI_intro c0 (ldS_intro c1 ⟨_, c2, ldI_intro c3 (box4 m fun w4 b4 e4 h4 g4 s4 => alW_intro ?_)⟩))
    have o5 := OwnE.empty (enc := rfE) (k := 2) (w := w4) (B := w4.heap.size) (e := 62) (Nat.le_refl _)
    have g5 : Below w4.heap.size w4 (w4.alloc (.cells #[] 62)) := (Below.refl _ _).alloc (Nat.le_refl _) _
    have s5 : (w4.alloc (.cells #[] 62)).heap.size = w4.heap.size + 1 := by simp
    generalize w4.alloc (.cells #[] 62) = w5 at o5 g5 s5
    have hR5 := (hR.below g4).below g5
    refine ⟨_, tcopy0 (B0 := w4.heap.size) (l := m.tk) rfl (by rw [hk]; omega) (by omega) (fun a' ha => by have := hlt3 _ (hRG a' ha); omega) m.tk.length 0 w5 _ 0 (by omega) (by omega) (h4.below g5) hR5 (by rw [List.take_zero]; exact o5) (by omega) fun A6 c6 w6 o6 k6 f6 _ => ?_⟩
    have hob : ∀ k, Ob (some ⟨w4.heap.size, 0, none⟩) k → w4.heap.size ≤ k := fun k ⟨a', ha, e⟩ => by injection ha with ha; subst ha; exact Nat.le_of_eq e
    have kF6 : Keeps (fun k => w4.heap.size ≤ k) w4 w6 := (Keeps.of_below g5).trans' k6 fun k _ h => hob k h
    have b6 : Below w4.heap.size w4 w6 := kF6.below (Nat.le_refl _) fun k hk h => by omega
    have hR6 : RR w6 Ar refs := (hr.below g0).below (g4.trans (b6.mono (by omega)))
    refine ⟨_, tcopy1 (A := Ar) (c := cr) (l := refs) (pre := m.tk) (B0 := w4.heap.size) (by rw [hk]; exact hsz) (fun hne a' ha => by have := hrl hne a' ha; omega) refs.length 0 w6 A6 c6 (by omega) (by omega) hR6 (by rw [List.take_zero, List.append_nil]; exact o6) b6.size fun A7 c7 w7 o7 k7 f7 _ => ?_⟩
    have hA6 : ∀ a', A6 = some a' → w4.heap.size ≤ a'.block := fun a' ha => (o6.block a' ha).1
    have k47 : Keeps (fun k => w4.heap.size ≤ k) w4 w7 := kF6.trans' k7 fun k _ ⟨a', ha, e⟩ => by have := hA6 a' ha; omega
    have b7 : Below w4.heap.size w4 w7 := k47.below (Nat.le_refl _) fun k hk h => by omega
    refine hb_st (j := 1) (h4.below b7) (by simp) fun w8 h8 k8 => ?_
    have h8 : HB w8 b4 #[.int .i64 m.start, .slice A7 (m.tk ++ refs).length c7, .bool m.live, .int .i64 m.at_] 73 := h8
    have bW : Below w3.heap.size w3 w7 := g4.trans (b7.mono (by omega))
    have h18 := (h13.below bW).keeps k8 (by omega)
    have hbw8 : Below w3.heap.size w3 w8 := bW.trans (k8.below (by have := b7.size; omega) fun k hk e => by omega)
    refine hb_ldS0 h18 rfl (hb_ldI (j := 1) h18 rfl (hb_ldI0 h8 rfl (hb_ldS (j := 1) h8 rfl (hb_ldB (j := 2) h8 rfl (hb_ldI (j := 3) h8 rfl ?_)))))
    have H8 := H3.below hbw8
    have hsz78 := k8.size
    have hA7 : ∀ a', A7 = some a' → w4.heap.size ≤ a'.block ∧ a'.block < w7.heap.size := fun a' ha => o7.block a' ha
    have HG : RTb w8 (fun k => G k ∨ Ob A7 k) (some a) t.txs := H8.mono (fun k h => .inl h) fun k hk => by
      rcases hk with hk | ⟨a', ha, e⟩
      · have := hlt3 k hk
        have := hbw8.size
        omega
      · have := (hA7 a' ha).2; omega
    have hx8 : RR w8 A7 (m.tk ++ refs) := (o7.reads Erf).rr.keeps k8 fun a' ha e => by have := (hA7 a' ha).1; omega
    refine (RPut_ok (c := c) HG hlen h5 hn.2 (x := ⟨m.start, A7, c7, m.tk ++ refs, m.live, m.at_⟩) hx8 fun a' ha => .inr ⟨a', ha, rfl⟩).mono fun e w9 he => ?_
    obtain ⟨A9, c9, rfl, r9⟩ := he
    refine ⟨A9, _, c9, _, rfl, ?_⟩
    have h39 : HB w9 b3 _ _ := ((h33.below hbw8).below (by obtain ⟨_, _, _, h⟩ := r9; exact h))
    refine out2 h39 rfl fun w10 k10 _ => ?_
    unfold Tb.touch
    rw [hx]
    have hput : (t.put n (TxM.tx ⟨m.start, A7, c7, m.tk ++ refs, m.live, m.at_⟩)) = t.put n { x with tk := x.tk ++ refs } := by
      rw [← hmx]; rfl
    rw [hput] at r9 ⊢
    refine ⟨A9, c9, rfl, ?_⟩
    have sz8 := hbw8.size
    exact r9.wide k10 (fun k (e : k = b3) => ⟨fun hg => by
      rcases hg with hg | ⟨a', ha, e'⟩
      · have := hlt3 k hg; omega
      · have := (hA7 a' ha).1; omega, by omega, by omega⟩) (fun k hk => hk.imp id fun ⟨a', ha, e⟩ => by have := (hA7 a' ha).1; omega) (g0.trans (hbw8.mono (by omega)))
end Go.Proofs.Ytbfcjnbjhpfdfaa.Rd
