/- The document's Begin, Try, Abort, Commit, walked. Conditions: none. -/
import Derived.Test.YtbfcjnbjhpfdfaaMvI
namespace Go.Proofs.Ytbfcjnbjhpfdfaa.Rd
open Go.Dn Go.RowKit
set_option linter.unusedVariables false
set_option maxRecDepth 100000
theorem bcopy {b : Nat} {cs : Array Value} {tb : TypeId} {A : Option Addr} {c : Nat} {l : List TxM} (hcs : cs[0]? = some (.slice A l.length c)) (hsz : l.length ≤ 1048576) {B0 : Nat} (hbB : b < B0) (hAB : ∀ a, A = some a → a.block < B0) {K0 : Option Addr → Nat → Nat → World → Prop} :
    ∀ (N i : Nat) (w : World) (A1 : Option Addr) (c1 : Nat), l.length - i = N → i ≤ l.length → HB w b cs tb → RowE txE 4 w A l → OwnE txE 4 w B0 73 A1 c1 (l.take i) → B0 ≤ w.heap.size →
      (∀ A' c' w', OwnE txE 4 w' B0 73 A' c' l → Keeps (Ob A1) w w' → (∀ a, A' = some a → A1 = some a ∨ w.heap.size ≤ a.block) → K0 A' l.length c' w') → f_ref14_Begin.l0 (N + 1) ⟨b, 0, none⟩ A1 i c1 (i : Int) w K0
  | N, i, w, A1, c1, hN, hi, hb, hR, ho, hw, hK => by
    unfold f_ref14_Begin.l0
    refine hb_ldS0 hb hcs ?_
    have hl1 : (l.take i).length = i := by rw [List.length_take]; omega
    by_cases hlt : i < l.length
    · cases N with
      | zero => omega
      | succ N =>
        obtain ⟨a, rfl⟩ := hR.addr (by omega)
        refine sel_t (by simpa using hlt) (hb_ldS0 hb hcs (optB_some rfl (req_intro (by simp; omega) ?_)))
        rw [Int.toNat_natCast, i64n (by omega)]
        refine ldI_intro (tx_c0 hR hlt) (ldS_intro (tx_c1 hR hlt) ⟨_, tx_c2 hR hlt, ldI_intro (tx_c3 hR hlt) (put_e RTtx Etx (by decide) ho hl1.symm l[i] rfl hw (by rw [hl1]; omega) fun A2 c2 w2 o2 k2 f2 => ?_)⟩)
        rw [← take_app hlt] at o2
        have e1 : (l.take i ++ [l[i]]).length = i + 1 := by rw [List.length_append, hl1]; rfl
        rw [e1]
        have hs := k2.size
        refine bcopy hcs hsz hbB hAB N (i + 1) w2 (some A2) c2 (by omega) (by omega) (hb.keeps k2 fun ⟨a', ha, e⟩ => by have := (ho.block a' ha).1; omega) (hR.keeps Etx k2 fun g hg ⟨a', ha, e⟩ => by have := (ho.block a' ha).1; have := hAB g hg; omega) o2 (by omega) fun A' c' w' o' k' f' => hK A' c' w' o' (k2.trans' k' fun k hk ⟨a', ha, e⟩ => ?_) fun a' ha => ?_
        · injection ha with ha; subst ha
          rcases f2 with f2 | f2
          · exact ⟨_, f2, e⟩
          · omega
        · rcases f' a' ha with h | h
          · injection h with h; subst h; exact f2
          · exact .inr (by omega)
    · refine sel_f (by simpa using hlt) ?_
      have e : i = l.length := by omega
      subst e
      rw [List.take_of_length_le (Nat.le_refl _)] at ho
      exact hK A1 c1 w ho (.refl _ _) fun a ha => .inl ha
variable {w : World} {G : Nat → Prop} {A : Option Addr} {c : Nat} {t : Tb}
theorem RBegin_ok (h : RTb w G A t.txs) (hlen : t.txs.length ≤ 1048575) :
    Calls Try.prog 25 #[tbV A t.txs.length c t.last] w fun e w' => ∃ A' c', e = .returned (.tuple #[tbV A' t.begin.1.txs.length c' t.begin.1.last, .int .i64 t.begin.2.1, .int .i64 t.begin.2.2]) ∧ RO w w' G A' t.begin.1.txs := by
  apply f_ref14_Begin.ok
  unfold f_ref14_Begin.wp
  refine al_new fun w1 b1 e1 s1 h1 g1 => al_new fun w2 b3 e3 s3 h3 g2 => hb_ldS0 (h1.below g2) rfl (hb_ldI (j := 1) (h1.below g2) rfl ?_)
  have sz1 := g1.size
  have sz2 := g2.size
  have h2 := (h.below g1).below g2
  refine (RLive_ok (c := c) h2 (by omega)).mono fun e w3 he => ?_
  obtain ⟨Al, cl, rfl, _, g3⟩ := he
  have sz3 := g3.size
  have g0 : Below w.heap.size w w3 := (g1.trans (g2.mono (by omega))).trans (g3.mono (by omega))
  have H3 := h.below g0
  have h13 := (h1.below g2).below g3
  have h33 := h3.below g3
  refine ⟨_, _, _, rfl, ?_⟩
  unfold Tb.begin
  by_cases h8 : 8 ≤ t.lives.length
  · refine sel_t (by simp; omega) (hb_ldS0 h13 rfl (hb_ldI (j := 1) h13 rfl (out2 h33 rfl fun w4 k4 _ => ?_)))
    rw [if_pos h8]
    exact ⟨A, c, rfl, .of h (g0.trans (k4.below (by omega) fun k hk (e : k = b3) => by omega))⟩
  · rw [if_neg h8]
    obtain ⟨ms, hm, r⟩ := h
    have hl : t.txs.length = ms.length := by rw [← hm, List.length_map]
    rw [hl] at h13 ⊢
    refine sel_f (by simp; omega) (alW_intro ?_)
    have o5 := OwnE.empty (enc := txE) (k := 4) (w := w3) (B := w3.heap.size) (e := 73) (Nat.le_refl _)
    have g5 : Below w3.heap.size w3 (w3.alloc (.cells #[] 73)) := (Below.refl _ _).alloc (Nat.le_refl _) _
    have s5 : (w3.alloc (.cells #[] 73)).heap.size = w3.heap.size + 1 := by simp
    generalize w3.alloc (.cells #[] 73) = w5 at o5 g5 s5
    have r3 := r.below g0
    refine ⟨_, bcopy (B0 := w3.heap.size) (l := ms) rfl (by omega) (by omega) (fun a ha => r3.lt _ (r3.gA a ha)) ms.length 0 w5 _ 0 (by omega) (by omega) (h13.below g5) (r3.below g5).row (by rw [List.take_zero]; exact o5) (by omega) fun A6 c6 w6 o6 k6 f6 _ => ?_⟩
    have hob : ∀ k, Ob (some ⟨w3.heap.size, 0, none⟩) k → w3.heap.size ≤ k := fun k ⟨a', ha, e⟩ => by injection ha with ha; subst ha; exact Nat.le_of_eq e
    have kF6 : Keeps (fun k => w3.heap.size ≤ k) w3 w6 := (Keeps.of_below g5).trans' k6 fun k _ h => hob k h
    have b6 : Below w3.heap.size w3 w6 := kF6.below (Nat.le_refl _) fun k hk h => by omega
    have h16 := h13.below b6
    refine hb_ldI (j := 1) h16 rfl (put_e RTtx Etx (by decide) o6 rfl ⟨t.last, none, 0, [], true, -1⟩ rfl b6.size (by omega) fun A7 c7 w7 o7 k7 f7 => ?_)
    have hA6 : ∀ a', A6 = some a' → w3.heap.size ≤ a'.block := fun a' ha => (o6.block a' ha).1
    have k37 : Keeps (fun k => w3.heap.size ≤ k) w3 w7 := kF6.trans' k7 fun k _ ⟨a', ha, e⟩ => by have := hA6 a' ha; omega
    have b7 : Below w3.heap.size w3 w7 := k37.below (Nat.le_refl _) fun k hk h => by omega
    refine hb_st0 (h13.below b7) (by simp) fun w8 h8' k8 => hb_ldS0 h8' rfl (hb_ldI (j := 1) h8' rfl (out2 ((h33.below b7).keeps k8 (by omega)) rfl fun w9 k9 _ => ?_))
    have hA7 := o7.block A7 rfl
    have e7 : (ms ++ [(⟨t.last, none, 0, [], true, -1⟩ : TxM)]).map TxM.tx = t.txs ++ [⟨t.last, [], true, -1⟩] := by rw [List.map_append, hm]; rfl
    have k79 : Keeps (fun k => k = b1 ∨ k = b3) w7 w9 := (k8.mono fun k _ h => .inl h).trans (k9.mono fun k _ h => .inr h)
    have sz8 := k79.size
    have b79 : Below w.heap.size w7 w9 := k79.below (by have := b7.size; omega) fun k hk h => by omega
    have bw : Below w.heap.size w w9 := (g0.trans (b7.mono (by omega))).trans b79
    refine ⟨some A7, c7, ?_, ?_⟩
    · rw [List.length_append, List.length_append, hl]
      simp only [List.length_cons, List.length_nil]
      rfl
    · refine ⟨fun k => G k ∨ k = A7.block, ⟨_, e7, (o7.reads Etx).keeps Etx k79 fun a' ha h => ?_, fun a' ha => ?_, fun m hm2 => ?_, fun k hk => ?_⟩, fun k hk => ?_, bw⟩
      · injection ha with ha; subst ha; omega
      · injection ha with ha; subst ha; exact .inr rfl
      · rcases List.mem_append.1 hm2 with hm2 | hm2
        · exact ⟨(r.rf m hm2).1.below bw, fun a' ha => .inl ((r.rf m hm2).2 a' ha)⟩
        · obtain rfl : m = _ := by simpa using hm2
          exact ⟨RR.nil _ _, fun a' ha => by cases ha⟩
      · rcases hk with hk | hk
        · have := r.lt k hk; have := bw.size; omega
        · omega
      · rcases hk with hk | hk
        · exact .inl hk
        · exact .inr (by omega)
/-! ### Try -/
theorem rtry_loop {G : Nat → Prop} {A : Option Addr} {c : Nat} {b b5 : Nat} {cs : Array Value} {tb tb5 : TypeId} {ms : List TxM} {m : TxM} {w0 : World} {K0 : World → Prop} {Kr : Int → World → Prop} (hcs : cs[0]? = some (.slice A ms.length c)) (hlen : ms.length ≤ 1048576)
    (hb : HB w0 b cs tb) (hb5 : HB w0 b5 #[.int .i64 m.start, .slice m.A m.tk.length m.c, .bool m.live, .int .i64 m.at_] tb5) (hr : RT w0 G A ms) (hm : RR w0 m.A m.tk) (hml : (m.tk.length : Int) ≤ 9223372036854775807) (hall : ∀ y ∈ ms, (y.tk.length : Int) ≤ 9223372036854775807)
    (h0 : ∀ w, Keeps (fun _ => False) w0 w → (∀ y ∈ ms, ¬ (y.at_ > m.start ∧ common y.tk m.tk = true)) → K0 w) (h1 : ∀ w, Keeps (fun _ => False) w0 w → (∃ y ∈ ms, y.at_ > m.start ∧ common y.tk m.tk = true) → Kr 140 w) :
    ∀ (N i : Nat) (w : World), ms.length - i = N → i ≤ ms.length → Keeps (fun _ => False) w0 w → (∀ y ∈ ms.take i, ¬ (y.at_ > m.start ∧ common y.tk m.tk = true)) → f_ref14_Try.l0 (N + 1) ⟨b, 0, none⟩ ⟨b5, 0, none⟩ (i : Int) w K0 Kr
  | N, i, w, hN, hi, hk, hd => by
    unfold f_ref14_Try.l0
    refine hb_ldS0 (hb.keeps hk id) hcs ?_
    by_cases hlt : i < ms.length
    · cases N with
      | zero => omega
      | succ N =>
        have hk2 := hk.drew
        have hb2 := hb.keeps hk2 id
        have hb52 := hb5.keeps hk2 id
        have hr2 := hr.keeps hk2 fun _ _ => id
        obtain ⟨a, rfl⟩ := hr2.row.addr (by omega)
        have hmem := List.getElem_mem hlt
        have next : ∀ w', Keeps (fun _ => False) w0 w' → ¬ (ms[i].at_ > m.start ∧ common ms[i].tk m.tk = true) → f_ref14_Try.l0 (N + 1) ⟨b, 0, none⟩ ⟨b5, 0, none⟩ (IntKind.i64.wrap ((i : Int) + 1)) w' K0 Kr := fun w' k' hno => by
          rw [i64n (by omega)]
          refine rtry_loop hcs hlen hb hb5 hr hm hml hall h0 h1 N (i + 1) w' (by omega) (by omega) k' fun y hy => ?_
          rw [take_app hlt] at hy
          rcases List.mem_append.1 hy with hy | hy
          · exact hd y hy
          · have : y = ms[i] := by simpa using hy
            rw [this]; exact hno
        refine sel_t (by simpa using hlt) (drW_intro (hb_ldS0 hb2 hcs (optB_some rfl (req_intro (by simp; omega) ?_))))
        rw [Int.toNat_natCast]
        refine ldI_intro (tx_c3 hr2.row hlt) (hb_ldI0 hb52 rfl ?_)
        by_cases hgt : ms[i].at_ > m.start
        · refine sel_t (by simpa using hgt) (hb_ldS0 hb2 hcs (optB_some rfl (req_intro (by simp; omega) (ldS_intro (tx_c1 hr2.row hlt) (hb_ldS (j := 1) hb52 rfl ?_)))))
          refine (common_ok (hall _ hmem) hml (hr2.rf _ hmem).1 (hm.keeps hk2 fun _ _ => id)).mono fun e w' he => ?_
          obtain ⟨rfl, k'⟩ := he
          refine ⟨_, rfl, ?_⟩
          by_cases hc : common ms[i].tk m.tk = true
          · exact sel_t hc (h1 w' (hk2.trans k') ⟨_, hmem, hgt, hc⟩)
          · exact sel_f (by simpa using hc) (next w' (hk2.trans k') fun h => hc h.2)
        · exact sel_f (by simpa using hgt) (next _ hk2 fun h => hgt h.1)
    · refine sel_f (by simpa using hlt) (h0 w hk fun y hy => hd y ?_)
      rw [List.take_of_length_le (by omega)]; exact hy
theorem RTry_ok (h : RTb w G A t.txs) (hlen : t.txs.length ≤ 1048576) {n : Int} (hn : W64 n) (htk : ∀ y ∈ t.txs, (y.tk.length : Int) ≤ 9223372036854775807) :
    Calls Try.prog 29 #[tbV A t.txs.length c t.last, .int .i64 n] w fun e w' => e = .returned (.int .i64 (t.try_ n)) ∧ Below w.heap.size w w' := by
  apply f_ref14_Try.ok
  unfold f_ref14_Try.wp
  refine al_new fun w1 b1 e1 s1 h1 g1 => hb_ldS0 h1 rfl (hb_ldI (j := 1) h1 rfl ?_)
  refine (RIs_ok (c := c) (h.below g1) hn).mono fun e w3 he => ?_
  obtain ⟨rfl, g3⟩ := he
  have sz1 := g1.size
  have sz3 := g3.size
  have g0 : Below w.heap.size w w3 := g1.trans (g3.mono (by omega))
  have H3 := h.below g0
  have h13 := h1.below g3
  refine ⟨_, rfl, ?_⟩
  unfold Tb.try_
  cases hx : t.get n with
  | none => exact sel_t (by simp) ⟨rfl, g0⟩
  | some x =>
    obtain ⟨h5, h6, h7⟩ := Tb.get_some hx
    obtain ⟨a, m, rfl, hmx, hi, c0, c1, c2, c3, hR, hRG⟩ := get_row H3 hx
    have hk : m.tk = x.tk := by rw [← hmx]; rfl
    have hs : m.start = x.start := by rw [← hmx]; rfl
    refine sel_f (by simp) (hb_ldS0 h13 rfl (optB_some rfl ?_))
    rw [i64p h5 hn.2]
    refine req_intro (by simp; omega) (ldI_intro c0 (ldS_intro c1 ⟨_, c2, ldI_intro c3 (box4 m fun w4 b4 e4 h4 g4 s4 => ?_)⟩))
    have H4 := H3.below g4
    obtain ⟨ms, hm, r⟩ := H4
    have hl : t.txs.length = ms.length := by rw [← hm, List.length_map]
    have h14 := h13.below g4
    rw [hl] at h14 hlen
    have gw : Below w.heap.size w w4 := g0.trans (g4.mono (by omega))
    have hcl : t.clash x = true ↔ ∃ y ∈ ms, y.at_ > m.start ∧ common y.tk m.tk = true := by
      unfold Tb.clash
      rw [List.any_eq_true, ← hm]
      constructor
      · rintro ⟨y, hy, h⟩
        obtain ⟨z, hz, rfl⟩ := List.mem_map.1 hy
        simp only [Bool.and_eq_true, decide_eq_true_eq] at h
        exact ⟨z, hz, by rw [hs]; exact h.1, by rw [hk]; exact h.2⟩
      · rintro ⟨z, hz, h8, h9⟩
        refine ⟨z.tx, List.mem_map_of_mem hz, ?_⟩
        simp only [Bool.and_eq_true, decide_eq_true_eq]
        exact ⟨by rw [hs] at h8; exact h8, by rw [hk] at h9; exact h9⟩
    refine ⟨_, rtry_loop (ms := ms) (m := m) (w0 := w4) rfl hlen h14 h4 r (hR.below g4) (by rw [hk]; exact htk x (Tb.get_mem hx)) (fun y hy => htk y.tx (by rw [← hm]; exact List.mem_map_of_mem hy)) (fun w' k' hno _ => ?_) (fun w' k' hyes _ => ?_) ms.length 0 w4 (by omega) (by omega) (.refl _ _) (by simp)⟩
    · have hc : ¬ t.clash x = true := fun hc => by
        obtain ⟨y, hy, hh⟩ := hcl.1 hc
        exact hno y hy hh
      have gF : Below w.heap.size w w' := gw.trans (k'.below gw.size fun _ _ => id)
      simp only
      rw [if_neg hc]
      refine hb_ldS (j := 1) (h4.keeps k' id) rfl ?_
      by_cases htk0 : x.tk = []
      · refine sel_f (decide_eq_false (by rw [hk, htk0]; simp)) ⟨?_, gF⟩
        rw [if_neg fun h => h.1 htk0]
      · have hpos : 0 < m.tk.length := by rw [hk]; exact List.length_pos_iff.2 htk0
        refine sel_t (decide_eq_true (by omega)) (hb_ldI (j := 1) (h14.keeps k' id) rfl ?_)
        by_cases hmx' : mxT ≤ t.last
        · refine sel_t (by simp only [mxT] at hmx'; simpa using hmx') ⟨?_, gF⟩
          rw [if_pos ⟨htk0, hmx'⟩]
        · refine sel_f (by simp only [mxT] at hmx'; simpa using hmx') ⟨?_, gF⟩
          rw [if_neg fun h => hmx' h.2]
    · simp only
      rw [if_pos (hcl.2 hyes)]
      exact ⟨rfl, gw.trans (k'.below gw.size fun _ _ => id)⟩
end Go.Proofs.Ytbfcjnbjhpfdfaa.Rd
