/- The law's call against the document: asks. Conditions: none. -/
import Derived.Test.YthekjlglnmhlaaaDlG
namespace Go.Proofs.Ythekjlglnmhlaaa.Rd
open Go.Dn Go.RowKit Go.Shelf
set_option linter.unusedVariables false
set_option linter.unusedSimpArgs false
set_option maxRecDepth 100000
theorem rv_st {w : World} {b3 : Nat} {t3 : TypeId} {cs : Array Value} (h3 : HB w b3 cs t3) (hs : cs.size = 4) (v : RV)
    {K : Option Addr → Nat → Nat → Option Addr → Nat → Nat → Int → Bool → World → Prop} (k : ∀ w', Keeps (fun k => k = b3) w w' → HB w' b3 (rvC v) t3 → K v.A v.n v.c v.P v.pn v.pc v.st v.off w') :
    stW w (⟨b3, 0, Option.none⟩ : Addr) (.slice v.A v.n v.c) fun w10 =>
    stW w10 ((⟨b3, 0, Option.none⟩ : Addr).add 1) (.slice v.P v.pn v.pc) fun w11 =>
    stW w11 ((⟨b3, 0, Option.none⟩ : Addr).add 2) (.int .i64 v.st) fun w12 =>
    stW w12 ((⟨b3, 0, Option.none⟩ : Addr).add 3) (.bool v.off) fun w13 =>
    ldS w13 (⟨b3, 0, Option.none⟩ : Addr) fun A14 n14 c14 =>
    ldS w13 ((⟨b3, 0, Option.none⟩ : Addr).add 1) fun A15 n15 c15 =>
    ldI w13 ((⟨b3, 0, Option.none⟩ : Addr).add 2) .i64 fun x16 =>
    ldB w13 ((⟨b3, 0, Option.none⟩ : Addr).add 3) fun b17 => K A14 n14 c14 A15 n15 c15 x16 b17 w13 := by
  obtain ⟨z0, z1, z2, z3, rfl⟩ : ∃ z0 z1 z2 z3, cs = #[z0, z1, z2, z3] := by
    rcases cs with ⟨l⟩
    match l, hs with
    | [z0, z1, z2, z3], _ => exact ⟨z0, z1, z2, z3, rfl⟩
  refine hb_st0 h3 (by simp) fun w6 h6 k6 => hb_st h6 (by simp) fun w7 h7 k7 => hb_st h7 (by simp) fun w8 h8 k8 => hb_st h8 (by simp) fun w9 h9 k9 => ?_
  exact hb_ldS0 h9 rfl (hb_ldS (j := 1) h9 rfl (hb_ldI (j := 2) h9 rfl (hb_ldB (j := 3) h9 rfl (k w9 (((k6.trans k7).trans k8).trans k9) h9))))
/-- kinds overwritten in a row of fates of one's own -/
theorem asks_l0 {g : Nat} {t : TypeId} {n c : Nat} (hn : n ≤ 140737488355328) {w0 : World} {K0 : World → Prop} (k0 : ∀ w, Keeps (fun k => k = g) w0 w → K0 w) :
    ∀ (m i : Nat) (w : World) (cs : Array Value), n - i = m → i ≤ n → HB w g cs t → n * 2 ≤ cs.size → Keeps (fun k => k = g) w0 w →
      f_law07_asks.l0 (m + 1) (some ⟨g, 0, none⟩) n c (n : Int) (i : Int) w K0 := by
  intro m
  induction m with
  | zero =>
    intro i w cs hm hi h hc k
    unfold f_law07_asks.l0
    exact sel_f (by simp; omega) (k0 w k)
  | succ m ih =>
    intro i w cs hm hi h hc k
    have hlt : i < n := by omega
    unfold f_law07_asks.l0
    rw [show ((i : Int).toNat) * 2 = i * 2 by omega]
    refine sel_t (by simpa using hlt) (optB_some rfl (req_intro (by simp; omega) ?_))
    rw [add_add]
    refine hb_st h (by omega) fun w1 h1 k1 => ?_
    rw [wrs hlt hn]
    exact ih (i + 1) w1 _ (by omega) (by omega) h1 (by simpa using hc) (k.trans k1)
section
variable {w w' : World} {B : Nat} {N : Nat → Prop} {r : RD} {d : Dk} {v : RV}
/-- what a call against the document brings -/
def AskR (w : World) (B : Nat) (N : Nat → Prop) (r : RD) (d : Dk) (o : DOp) (e : Ending) (w' : World) : Prop :=
  ∃ v' r', e = .returned (.tuple #[rvE v', .bool true]) ∧ r'.D = r.D ∧ DM w' B r' (doD d o) ∧ RM w' (fun k => N k ∨ FD r' k) v' (doD d o) ∧ Keeps (FD r) w w' ∧ ∀ k, FD r' k → FD r k ∨ w.heap.size ≤ k
def oE (o : DOp) : Value := .agg #[.int .i64 o.kind, .int .i64 o.i, .slice o.A1 o.data.length o.c1, .slice o.A2 o.keeps.length o.c2, .slice o.A3 o.fates.length o.c3]
theorem asks_ok (h : DM w B r d) (hv : RM w N v d) (hF : ∀ k, FD r k → N k) (hN : ∀ k, N k → k < w.heap.size) (hNB : ∀ k, N k → B ≤ k) {o : DOp} (ho : OkD w B o) (hB : B ≤ w.heap.size) :
    Calls Try.prog 33 #[.pointer (some ⟨r.D, 0, none⟩), rvE v, oE o] w (AskR w B N r d o) := by
  apply f_law07_asks.ok
  unfold f_law07_asks.wp
  refine al_new fun w1 b1 e1 s1 hb1 g1 => al_new fun w2 b3 e3 s3 hb3 g2 => al_new fun w3 b5 e5 s5 hb5 g3 => ?_
  have G : Below w.heap.size w w3 := (g1.trans (g2.mono (by omega))).trans (g3.mono (by omega))
  have hb1 : HB w3 b1 (rvC v) TRd := (HB.below (cs := rvC v) hb1 g2).below g3
  have hb3 : HB w3 b3 (dopE o).toArray 41 := HB.below (cs := (dopE o).toArray) hb3 g3
  have hm := h.below G
  have hv3 := hv.belw G
  have ho3 := ho.keep (.of_below G)
  have s0 := G.size
  have hN3 : ∀ k, N k → k < w3.heap.size := fun k hk => by have := hN k hk; omega
  have fr : ∀ k, FD r k → k < w.heap.size := fun k hk => (h.lt k hk).1
  have hlo : ∀ k, FD r k → B ≤ k := fun k hk => (h.lt k hk).2
  have lt1 : b1 < w3.heap.size := by omega
  have lt3 : b3 < w3.heap.size := by omega
  have lt5 : b5 < w3.heap.size := by omega
  have ge1 : w.heap.size ≤ b1 := by omega
  have ge3 : w.heap.size ≤ b3 := by omega
  have ge5 : w.heap.size ≤ b5 := by omega
  -- the document's disk, its blocks outside of all that is new
  have hvW : RM w3 (fun k => N k ∨ w.heap.size ≤ k) v d := (hv.out fun k hk h => h.elim id fun h => by omega).belw G
  refine hb_ldI0 hb3 (x := o.kind) rfl ?_
  by_cases c1 : o.kind = 1
  · have eD : doD d o = d := by unfold doD; simp [c1]
    refine sel_t (by simpa using c1) (hb_ldI (j := 1) hb3 (x := o.i) rfl ((Read_ok2 hm o.i).mono ?_))
    rintro _ w4 ⟨A4, n4, c4, rfl, R4, f4, g4⟩
    refine ⟨_, _, _, _, rfl, hb_ldI (j := 1) (hb3.below g4) (x := o.i) rfl ((Read_ok2 (hm.below g4) o.i).mono ?_)⟩
    rintro _ w5 ⟨A5, n5, c5, rfl, R5, f5, g5⟩
    have s4 := g4.size
    have s5' := g5.size
    have G5 := g4.trans (g5.mono s4)
    have hb15 := hb1.below G5
    have hb35 := hb3.below G5
    refine ⟨_, _, _, _, rfl, hb_ldS0 hb15 (A := v.A) (n := v.n) (c := v.c) rfl (hb_ldS (j := 1) hb15 (A := v.P) (n := v.pn) (c := v.pc) rfl (hb_ldI (j := 2) hb15 (x := v.st) rfl (hb_ldB (j := 3) hb15 (x := v.off) rfl (hb_ldI (j := 1) hb35 (x := o.i) rfl ((RRead_ok2 (hv3.belw G5) o.i).mono ?_)))))⟩
    rintro _ w6 ⟨A6, n6, c6, rfl, R6, e6, f6, g6⟩
    have G6 := G5.trans (g6.mono G5.size)
    have s6 := g6.size
    refine ⟨_, _, _, _, rfl, drW_intro ?_⟩
    have gd := (Below.refl w6.heap.size w6).drew
    have G7 := G6.trans (gd.mono G6.size)
    have hb17 := hb1.below G7
    have hb57 := hb5.below G7
    have R4' := R4.keeps (S := fun _ => False) (.of_below ((g5.trans (g6.mono s5')).trans (gd.mono (by omega)))) fun _ _ => id
    have R5' := R5.keeps (S := fun _ => False) (.of_below (g6.trans (gd.mono s6))) fun _ _ => id
    have R6' := R6.belw gd
    generalize w6.drew = w7 at gd G7 hb17 hb57 R4' R5' R6'
    have s7 := gd.size
    have id' : ∀ w', HB w' b1 (rvC v) TRd → HB w' b1 (rvC v) TRd := fun _ h => h
    refine ⟨fun w' => HB w' b1 (rvC v) TRd, hb17, hdS_i0 id' (A := v.A) (n := v.n) (c := v.c) rfl (hdS_i id' (j := 1) (A := v.P) (n := v.pn) (c := v.pc) rfl (hdI_i id' (j := 2) (x := v.st) rfl (hdB_i id' (j := 3) (x := v.off) rfl (sel_t (by simp) ?_))))⟩
    obtain ⟨l4, _⟩ := R4.len
    obtain ⟨l5, _⟩ := R5.len
    have d5 : ∀ a, A5 = some a → ¬ Ob A4 a.block := fun a ha ⟨a', ha', e⟩ => by
      have q1 := f5 a ha
      have q2 : a'.block < w4.heap.size := by
        rcases R4 with ⟨q, _⟩ | ⟨b, s, q, _, _, hq, _⟩
        · rw [q] at ha'; cases ha'
        · rw [q] at ha'; injection ha' with ha'; subst ha'; exact hq.lt
      omega
    have d6 : ∀ a, A6 = some a → ¬ Ob A4 a.block := fun a ha ⟨a', ha', e⟩ => by
      have q1 := f6 a ha
      have q2 : a'.block < w4.heap.size := by
        rcases R4 with ⟨q, _⟩ | ⟨b, s, q, _, _, hq, _⟩
        · rw [q] at ha'; cases ha'
        · rw [q] at ha'; injection ha' with ha'; subst ha'; exact hq.lt
      omega
    refine (Apart_ok R4' R5'.wb.rb l5 R6' e6 d5 d6).mono ?_
    rintro _ w8 ⟨rfl, k8⟩
    have n4 : ∀ b, b < w3.heap.size → ¬ Ob A4 b := fun b hb ⟨a, ha, e⟩ => by have := f4 a ha; omega
    have hb18 := hb17.keeps k8 (n4 _ lt1)
    have hb58 := hb57.keeps k8 (n4 _ lt5)
    refine ⟨_, rfl, hb18, hb_st0 hb58 (by simp) fun w9 e9 k9 => hb_st e9 (by simp) fun w10 e10 k10 => hb_st e10 (by simp) fun w11 e11 k11 => hb_st e11 (by simp) fun w12 e12 k12 => ?_⟩
    have kk := ((k9.trans k10).trans k11).trans k12
    have n15 : b1 ≠ b5 := by omega
    refine ⟨hb18.keeps kk n15, hb_ldS0 e12 rfl (hb_ldS (j := 1) e12 rfl (hb_ldI (j := 2) e12 rfl (hb_ldB (j := 3) e12 rfl ⟨v, r, rfl, rfl, ?_, ?_, ?_, fun k hk => .inl hk⟩)))⟩
    all_goals
      have GG : Below w.heap.size w w12 := ((G.trans (G7.mono s0)).trans (k8.below (by omega) fun k hk ⟨a, ha, e⟩ => by have := f4 a ha; omega)).trans (kk.below (by have := k8.size; omega) fun k hk e => by omega)
      try rw [eD]
    · exact h.below GG
    · exact (hv.belw GG).out fun k _ hk => hk.elim id (hF k)
    · exact .of_below GG
  have done : ∀ {W : World} {v' : RV} {r' : RD}, Keeps (FD r) w W → r'.D = r.D → DM W B r' (doD d o) → RM W (fun k => N k ∨ FD r' k) v' (doD d o) → (∀ k, FD r' k → FD r k ∨ w.heap.size ≤ k) → AskR w B N r d o (.returned (.tuple #[.agg #[.slice v'.A v'.n v'.c, .slice v'.P v'.pn v'.pc, .int .i64 v'.st, .bool v'.off], .bool true])) W := fun k e1 m1 m2 f => ⟨_, _, rfl, e1, m1, m2, k, f⟩
  refine sel_f (by simpa using c1) ?_
  by_cases c2 : o.kind = 2
  · have eD : doD d o = wrD d o.i o.data := by unfold doD; rw [if_pos c2]
    have ol := ho.l1
    refine sel_t (by simpa using c2) (hb_ldS (j := 2) hb3 (A := o.A1) (n := o.data.length) (c := o.c1) rfl ((Wide_ok ho3.r1 rfl (by omega)).mono ?_))
    rintro _ w4 ⟨A4, c4, rfl, o4, g4⟩
    refine ⟨_, _, _, rfl, drW_intro ?_⟩
    have gd := (Below.refl w4.heap.size w4).drew
    have s4 := g4.size
    have G5 := g4.trans (gd.mono s4)
    have o5 := o4.below gd
    generalize w4.drew = w5 at gd G5 o5
    have s5' := gd.size
    have hm5 := hm.below G5
    have hb35 := hb3.below G5
    have ll : (o.data ++ padL 64).length = o.data.length + 64 := by rw [List.length_append, padL_len]
    have cc := OwnE.cap' o5
    refine hb_ldI (j := 1) hb35 (x := o.i) rfl (hb_ldS (j := 2) hb35 (A := o.A1) (n := o.data.length) (c := o.c1) rfl (req_intro (by simp; omega) ?_))
    rw [slA00]
    have r5 : RB w5 A4 o.data := by
      have := (OwnE.rb o5).take o.data.length
      rwa [List.take_left] at this
    have f4 : ∀ a, A4 = some a → ¬ FD r a.block := fun a ha hf => by have := (o5.block a ha).1; have := fr _ hf; omega
    refine (Write_ok (i := o.i) (l := o.data) hm5 (by omega) r5 f4).mono ?_
    rintro _ w6 ⟨rfl, hm6, k6⟩
    have hb16 := (hb1.below G5).keeps k6 fun hf => by have := fr _ hf; omega
    have hb36 := hb35.keeps k6 fun hf => by have := fr _ hf; omega
    have hb56 := (hb5.below G5).keeps k6 fun hf => by have := fr _ hf; omega
    have K6 : Keeps (fun k => FD r k ∨ w.heap.size ≤ k) w3 w6 := (Keeps.of_below G5).trans (k6.mono fun k _ h => .inl h)
    have KB6 : Keeps (fun k => B ≤ k) w3 w6 := K6.mono fun k _ h => h.elim (fun h' => (hlo k h')) fun h => by omega
    have o6 := o5.keeps k6 f4
    have r6 : RB w6 o.A1 o.data := (ho3.keep KB6).r1
    refine ⟨_, rfl, hb_ldS (j := 2) hb36 (A := o.A1) (n := o.data.length) (c := o.c1) rfl ((Intact_ok (OwnE.rb o6) rfl r6 rfl (by omega)).mono ?_)⟩
    rintro _ w7 ⟨rfl, g7⟩
    refine ⟨_, rfl, (Spoil_ok (.of_own (o6.below g7)) rfl (by omega)).mono ?_⟩
    rintro _ w8 ⟨rfl, -, k8⟩
    have n4 : ∀ b, b < w3.heap.size → ¬ Ob A4 b := fun b hb ⟨a, ha, e⟩ => by have := (o5.block a ha).1; omega
    have K8 : Keeps (fun k => FD r k ∨ w.heap.size ≤ k) w3 w8 := (K6.trans (.of_below g7)).trans (k8.mono fun k _ ⟨a, ha, e⟩ => .inr (by have := (o5.block a ha).1; omega))
    have s8 := K8.size
    have KB8 : Keeps (fun k => B ≤ k) w3 w8 := K8.mono fun k _ h => h.elim (fun h' => (hlo k h')) fun h => by omega
    have hb18 := (hb16.below g7).keeps k8 (n4 _ lt1)
    have hb38 := (hb36.below g7).keeps k8 (n4 _ lt3)
    have hb58 := (hb56.below g7).keeps k8 (n4 _ lt5)
    have hm8 : DM w8 B r (wrD d o.i o.data) := (hm6.below g7).keeps k8 fun b hb ⟨a, ha, e⟩ => f4 a ha (e ▸ hb)
    have hv8 : RM w8 (NN N w.heap.size w8.heap.size) v d := (hvW.keeps K8 fun k hk => hk.elim (fun h => .inl (hF k h)) .inr).out fun k hk h => h.elim .inl fun h => .inr h.1
    have r8 : RB w8 o.A1 o.data := (ho3.keep KB8).r1
    refine ⟨rfl, hb_ldS0 hb18 (A := v.A) (n := v.n) (c := v.c) rfl (hb_ldS (j := 1) hb18 (A := v.P) (n := v.pn) (c := v.pc) rfl (hb_ldI (j := 2) hb18 (x := v.st) rfl (hb_ldB (j := 3) hb18 (x := v.off) rfl (hb_ldI (j := 1) hb38 (x := o.i) rfl (hb_ldS (j := 2) hb38 (A := o.A1) (n := o.data.length) (c := o.c1) rfl ?_)))))⟩
    refine (RWrite_ok (i := o.i) hv8 (NN.lt hN (by omega)) r8 rfl (by omega)).mono ?_
    rintro _ w9 ⟨v', rfl, hv9, g9⟩
    refine ⟨_, _, _, _, _, _, _, _, _, rfl, al_new fun w10 b75 e75 s10 hb75 g10 => ?_⟩
    have s9 := g9.size
    refine hb_st0 hb75 (by decide) fun w11 e11 k11 => hb_st e11 (by simp) fun w12 e12 k12 => hb_st e12 (by simp) fun w13 e13 k13 => hb_st e13 (by simp) fun w14 e14 k14 => ?_
    have kk := ((k11.trans k12).trans k13).trans k14
    have e14 : HB w14 b75 (rvC v') TRd := e14
    refine hb_ldS0 e14 (A := v'.A) (n := v'.n) (c := v'.c) rfl (hb_ldS (j := 1) e14 (A := v'.P) (n := v'.pn) (c := v'.pc) rfl (hb_ldI (j := 2) e14 (x := v'.st) rfl (hb_ldB (j := 3) e14 (x := v'.off) rfl (sel_t rfl ?_))))
    have G14 : Below w8.heap.size w8 w14 := (g9.trans (g10.mono s9)).trans (kk.below (by omega) fun k hk e => by omega)
    refine rv_st (hb58.below G14) rfl v' fun w15 k15 _ => ?_
    rw [show (wrC d o.i o.data == wrC d o.i o.data) = true by simp]
    refine done (r' := r) ?_ rfl ?_ ?_ fun k hk => .inl hk
    · exact (((Keeps.of_below G).trans' K8 fun k hk h => h.elim id fun h => by omega).trans (.of_below G14)).trans' k15 fun k hk e => by omega
    · rw [eD]
      exact (hm8.below G14).keeps k15 fun b hb e => by have := fr b hb; omega
    · rw [eD]
      have g914 : Below w9.heap.size w9 w14 := g10.trans (kk.below (by omega) fun k hk e => by omega)
      exact ((hv9.belw g914).keeps k15 fun k e => .inr ⟨by omega, by omega⟩).out fun k _ hk => .inl (hk.elim id (hF k))
  refine sel_f (by simpa using c2) ?_
  by_cases c3 : o.kind = 3
  · have eD : doD d o = syD d := by unfold doD; simp [c3]
    refine sel_t (by simpa using c3) ((Sync_ok hm).mono ?_)
    rintro _ w8 ⟨rfl, hm8, k8⟩
    have K8 : Keeps (fun k => FD r k ∨ w.heap.size ≤ k) w3 w8 := k8.mono fun k _ => .inl
    have s8 := k8.size
    have hb18 := hb1.keeps k8 fun hf => by have := fr _ hf; omega
    have hb58 := hb5.keeps k8 fun hf => by have := fr _ hf; omega
    have hv8 : RM w8 (NN N w.heap.size w8.heap.size) v d := (hvW.keeps K8 fun k hk => hk.elim (fun h => .inl (hF k h)) .inr).out fun k hk h => h.elim .inl fun h => .inr h.1
    refine ⟨_, rfl, hb_ldS0 hb18 (A := v.A) (n := v.n) (c := v.c) rfl (hb_ldS (j := 1) hb18 (A := v.P) (n := v.pn) (c := v.pc) rfl (hb_ldI (j := 2) hb18 (x := v.st) rfl (hb_ldB (j := 3) hb18 (x := v.off) rfl ((RSync_ok hv8 (NN.lt hN (by omega))).mono ?_))))⟩
    rintro _ w9 ⟨v', rfl, hv9, g9⟩
    refine ⟨_, _, _, _, _, _, _, _, _, rfl, al_new fun w10 b75 e75 s10 hb75 g10 => ?_⟩
    have s9 := g9.size
    refine hb_st0 hb75 (by decide) fun w11 e11 k11 => hb_st e11 (by simp) fun w12 e12 k12 => hb_st e12 (by simp) fun w13 e13 k13 => hb_st e13 (by simp) fun w14 e14 k14 => ?_
    have kk := ((k11.trans k12).trans k13).trans k14
    have e14 : HB w14 b75 (rvC v') TRd := e14
    have G14 : Below w8.heap.size w8 w14 := (g9.trans (g10.mono s9)).trans (kk.below (by omega) fun k hk e => by omega)
    refine rv_ret e14 (hb58.below G14) rfl fun w15 k15 _ => ?_
    rw [show (syC d == syC d) = true by simp]
    refine done (r' := r) ?_ rfl ?_ ?_ fun k hk => .inl hk
    · exact (((Keeps.of_below G).trans k8).trans (.of_below G14)).trans' k15 fun k hk e => by omega
    · rw [eD]
      exact (hm8.below G14).keeps k15 fun b hb e => by have := fr b hb; omega
    · rw [eD]
      have g914 : Below w9.heap.size w9 w14 := g10.trans (kk.below (by omega) fun k hk e => by omega)
      exact ((hv9.belw g914).keeps k15 fun k e => .inr ⟨by omega, by omega⟩).out fun k _ hk => .inl (hk.elim id (hF k))
  refine sel_f (by simpa using c3) ?_
  by_cases c4 : o.kind = 4
  · have eD : doD d o = onD d o.keeps := by unfold doD; simp [c4]
    have hon : Calls Try.prog 21 #[.pointer (some ⟨r.D, 0, none⟩), .slice o.A2 o.keeps.length o.c2] w3 fun e w' => e = .returned (.tuple #[]) ∧ DM w' B r (onD d o.keeps) ∧ Keeps (FD r) w3 w' := by
      by_cases h0 : o.keeps = []
      · rw [h0]; exact On0_ok hm
      · exact On_ok hm ho3.r2 rfl (fun a ha hf => by have := ho.b2 h0 a ha; have := (hm.lt _ (.inr (.inr (.inl hf)))).2; omega) (by have := ho.l2; omega)
    refine sel_t (by simpa using c4) (hb_ldS (j := 3) hb3 (A := o.A2) (n := o.keeps.length) (c := o.c2) rfl (hon.mono ?_))
    rintro _ w8 ⟨rfl, hm8, k8⟩
    have K8 : Keeps (fun k => FD r k ∨ w.heap.size ≤ k) w3 w8 := k8.mono fun k _ => .inl
    have s8 := k8.size
    have hb18 := hb1.keeps k8 fun hf => by have := fr _ hf; omega
    have hb38 := hb3.keeps k8 fun hf => by have := fr _ hf; omega
    have hb58 := hb5.keeps k8 fun hf => by have := fr _ hf; omega
    have ho8 := ho3.keep (k8.mono fun k _ hk => hlo k hk)
    have hv8 : RM w8 (NN N w.heap.size w8.heap.size) v d := (hvW.keeps K8 fun k hk => hk.elim (fun h => .inl (hF k h)) .inr).out fun k hk h => h.elim .inl fun h => .inr h.1
    refine ⟨rfl, hb_ldS0 hb18 (A := v.A) (n := v.n) (c := v.c) rfl (hb_ldS (j := 1) hb18 (A := v.P) (n := v.pn) (c := v.pc) rfl (hb_ldI (j := 2) hb18 (x := v.st) rfl (hb_ldB (j := 3) hb18 (x := v.off) rfl (hb_ldS (j := 3) hb38 (A := o.A2) (n := o.keeps.length) (c := o.c2) rfl ((ROn_ok hv8 (NN.lt hN (by omega)) ho8.r2 rfl ho.l2).mono ?_)))))⟩
    rintro _ w9 ⟨v', rfl, hv9, g9⟩
    have s9 := g9.size
    refine ⟨_, _, _, _, _, _, _, _, rfl, rv_st (hb58.below g9) rfl v' fun w15 k15 _ => ?_⟩
    refine done (r' := r) ?_ rfl ?_ ?_ fun k hk => .inl hk
    · exact (((Keeps.of_below G).trans k8).trans (.of_below g9)).trans' k15 fun k hk e => by omega
    · rw [eD]
      exact (hm8.below g9).keeps k15 fun b hb e => by have := fr b hb; omega
    · rw [eD]
      exact (hv9.keeps k15 fun k e => .inr ⟨by omega, by omega⟩).out fun k _ hk => .inl (hk.elim id (hF k))
  refine sel_f (by simpa using c4) ?_
  by_cases c5 : o.kind = 5
  · have eD : doD d o = { d with plan := o.fates } := by unfold doD; simp [c5]
    refine sel_t (by simpa using c5) (alW_intro (hb_ldS (j := 4) (hb3.below ((Below.refl _ _).alloc (Nat.le_refl _) _)) (A := o.A3) (n := o.fates.length) (c := o.c3) rfl ?_))
    have g4 : Below w3.heap.size w3 (w3.alloc (.cells #[] TFt)) := (Below.refl _ _).alloc (Nat.le_refl _) _
    have o4 := OwnE.empty (enc := eF) (k := 2) (w := w3) (B := w3.heap.size) (e := TFt) (Nat.le_refl _)
    have hl3 := ho.l3
    refine app_row2 RTf EF (by decide) o4 rfl (ho3.r3.below EF g4) rfl ho.z3 g4.size (by simpa using hl3) fun A5 c5' w5 o5 k5 f5 => ⟨_, _, _, rfl, ?_⟩
    rw [List.nil_append] at o5 ⊢
    have G5 : Below w3.heap.size w3 w5 := g4.trans (k5.below g4.size fun k hk ⟨a, ha, e⟩ => by injection ha with ha; subst ha; simp at e; omega)
    have s5' := G5.size
    have hz5 : A5 = none → c5' = 0 ∧ o.fates.length = 0 := fun hA => by
      obtain ⟨q1, q2⟩ := OwnE.nil0 o5 hA
      exact ⟨q1, by rw [q2]; rfl⟩
    refine (Plan_ok (hm.below G5) (o5.reads EF) rfl hz5 hl3 (by omega)).mono ?_
    rintro _ w6 ⟨rfl, P, pc, hm6, k6, f6⟩
    refine ⟨rfl, ?_⟩
    have K6 : Keeps (fun k => FD r k ∨ w.heap.size ≤ k) w3 w6 := (Keeps.of_below G5).trans (k6.mono fun k _ e => .inl (.inl e))
    have nP : ∀ k, FD { r with P := P, pc := pc } k → FD r k ∨ w5.heap.size ≤ k := fun k hk => by
      rcases hk with e | e | e | e
      · exact .inl (.inl e)
      · exact .inl (.inr (.inl e))
      · exact .inl (.inr (.inr (.inl e)))
      · exact .inr (f6 k e)
    have rest : ∀ w7, Keeps (Ob A5) w6 w7 → ∀ _ : Fr,
        ldS w7 ((⟨b3, 0, Option.none⟩ : Addr).add 4) fun A159 n159 c159 =>
        stW w7 ((⟨b1, 0, Option.none⟩ : Addr).add 1) (.slice A159 n159 c159) fun w160 =>
        ldS w160 (⟨b1, 0, Option.none⟩ : Addr) fun A161 n161 c161 =>
        ldS w160 ((⟨b1, 0, Option.none⟩ : Addr).add 1) fun A162 n162 c162 =>
        ldI w160 ((⟨b1, 0, Option.none⟩ : Addr).add 2) .i64 fun x163 =>
        ldB w160 ((⟨b1, 0, Option.none⟩ : Addr).add 3) fun b164 =>
        stW w160 (⟨b5, 0, Option.none⟩ : Addr) (.slice A161 n161 c161) fun w165 =>
        stW w165 ((⟨b5, 0, Option.none⟩ : Addr).add 1) (.slice A162 n162 c162) fun w166 =>
        stW w166 ((⟨b5, 0, Option.none⟩ : Addr).add 2) (.int .i64 x163) fun w167 =>
        stW w167 ((⟨b5, 0, Option.none⟩ : Addr).add 3) (.bool b164) fun w168 =>
        ldS w168 (⟨b5, 0, Option.none⟩ : Addr) fun A169 n169 c169 =>
        ldS w168 ((⟨b5, 0, Option.none⟩ : Addr).add 1) fun A170 n170 c170 =>
        ldI w168 ((⟨b5, 0, Option.none⟩ : Addr).add 2) .i64 fun x171 =>
        ldB w168 ((⟨b5, 0, Option.none⟩ : Addr).add 3) fun b172 =>
        AskR w B N r d o (.returned (.tuple #[.agg #[.slice A169 n169 c169, .slice A170 n170 c170, .int .i64 x171, .bool b172], .bool true])) w168 := fun w7 k7 _ => by
      have fA : ∀ k, Ob A5 k → w3.heap.size ≤ k ∧ k < w5.heap.size := fun k ⟨a, ha, e⟩ => by have := o5.block a ha; omega
      have hb17 := ((hb1.below G5).keeps k6 fun e => by have := fr b1 (.inl e); omega).keeps k7 fun hk => by have := fA _ hk; omega
      have hb37 := ((hb3.below G5).keeps k6 fun e => by have := fr b3 (.inl e); omega).keeps k7 fun hk => by have := fA _ hk; omega
      have hb57 := ((hb5.below G5).keeps k6 fun e => by have := fr b5 (.inl e); omega).keeps k7 fun hk => by have := fA _ hk; omega
      have K7 : Keeps (fun k => FD r k ∨ w.heap.size ≤ k) w3 w7 := K6.trans (k7.mono fun k _ hk => .inr (by have := fA _ hk; omega))
      have s7 := K7.size
      have hm7 := hm6.keeps k7 fun b hb hk => by
        have := fA _ hk
        rcases nP b hb with q | q
        · have := fr b q; omega
        · omega
      have hv7 : RM w7 (NN N w.heap.size w7.heap.size) v d := (hvW.keeps K7 fun k hk => hk.elim (fun h => .inl (hF k h)) .inr).out fun k hk h => h.elim .inl fun h => .inr h.1
      have ho7 := ho3.keep (K7.mono fun k _ hk => hk.elim (hlo k) fun h => by omega)
      refine hb_ldS (j := 4) hb37 (A := o.A3) (n := o.fates.length) (c := o.c3) rfl (hb_st (j := 1) hb17 (by simp [rvC]) fun w8 e8 k8 => ?_)
      have e8 : HB w8 b1 (rvC { v with P := o.A3, pn := o.fates.length, pc := o.c3 }) TRd := e8
      have n51 : b5 ≠ b1 := by omega
      refine rv_ret e8 (hb57.keeps k8 n51) rfl fun w9 k9 _ => ?_
      refine done (v' := { v with P := o.A3, pn := o.fates.length, pc := o.c3 }) (r' := { r with P := P, pc := pc }) ?_ rfl ?_ ?_ fun k hk => (nP k hk).imp id fun h => by omega
      · exact (((Keeps.of_below G).trans' K7 fun k hk h => h.elim id fun h => by omega).trans' k8 fun k hk e => by omega).trans' k9 fun k hk e => by omega
      · rw [eD]
        have nb : ∀ b, b < w3.heap.size → w.heap.size ≤ b → ¬ FD { r with P := P, pc := pc } b := fun b hb hb2 hf => by
          rcases nP b hf with q | q
          · have := fr b q; omega
          · omega
        exact (hm7.keeps k8 fun b hb e => nb b1 lt1 ge1 (e ▸ hb)).keeps k9 fun b hb e => nb b5 lt5 ge5 (e ▸ hb)
      · rw [eD]
        have K9 : Keeps (fun k => B ≤ k) w7 w9 := (k8.mono fun k _ e => by omega).trans (k9.mono fun k _ e => by omega)
        have q := ((hv7.keeps k8 fun k e => .inr ⟨by omega, by omega⟩).keeps k9 fun k e => .inr ⟨by omega, by omega⟩).out (N' := fun k => N k ∨ FD { r with P := P, pc := pc } k) fun k _ hk => hk.elim .inl fun hk => by
          have q1 := (hm6.lt k hk).1
          have q2 := k7.size
          rcases nP k hk with q3 | q3
          · exact .inl (hF k q3)
          · exact .inr ⟨by omega, by omega⟩
        refine ⟨q.ms, q.n, q.sl, (ho7.keep K9).r3, rfl, fun h0 a ha hk => ?_, ho.l3, q.st, q.off⟩
        have q1 := ho.b3 h0 a ha
        rcases hk with hk | hk
        · have := hNB _ hk; omega
        · have := (hm6.lt _ hk).2; omega
    by_cases h0 : o.fates.length = 0
    · refine ⟨1, ?_⟩
      unfold f_law07_asks.l0
      exact sel_f (by simp [h0]) (rest w6 (.refl _ _))
    · rcases o5.2 with ⟨_, h1⟩ | ⟨g, cap, cur, hv', _, hh, hn, hm', hs, _⟩
      · omega
      · injection hv' with hA
        have hh5 : HB w5 g cur TFt := hh
        have hg : Ob A5 g := ⟨_, hA, rfl⟩
        have hgd : g ≠ r.D := fun e => by
          obtain ⟨a, ha, e1⟩ := hg
          have := (o5.block a ha).1
          have := fr r.D (.inl rfl)
          omega
        rw [hA]
        exact ⟨_, asks_l0 (w0 := w6) (g := g) (n := o.fates.length) (by omega) (fun w7 k7 => rest w7 (k7.mono fun k _ e => by rw [e]; exact hg)) o.fates.length 0 w6 cur rfl (by omega) (hh5.keeps k6 hgd) (by rw [hs]; omega) (.refl _ _)⟩
  refine sel_f (by simpa using c5) ?_
  have eD : doD d o = d := by unfold doD; simp [c2, c3, c4, c5]
  refine rv_ret hb1 hb5 rfl fun w15 k15 _ => ?_
  have GG := G.trans (k15.below G.size fun k hk e => by omega)
  refine done (r' := r) (.of_below GG) rfl ?_ ?_ fun k hk => .inl hk
  · rw [eD]; exact h.below GG
  · rw [eD]; exact (hv.belw GG).out fun k _ hk => hk.elim id (hF k)
end
end Go.Proofs.Ythekjlglnmhlaaa.Rd
