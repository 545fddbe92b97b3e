/- MvccFirst, its loop over the calls. Conditions: none. -/
import Derived.Test.YtbfcjnbjhpfdfaaMvY
namespace Go.Proofs.Ytbfcjnbjhpfdfaa.Rd
open Go.Dn Go.RowKit
set_option linter.unusedVariables false
set_option maxRecDepth 100000
theorem fi_l0 {w0 : World} {a : Nat} {Ao : Option Addr} {co : Nat} {ops : List MOp} {K0 : Option Addr → Nat → Nat → World → Prop} {Kr : Bool → World → Prop} (hops : ROps w0 Ao ops) (hs : ops.length + sumR ops ≤ 1048575)
    (hK : ∀ w F t ms A6 c6 D A7 c7, FiM w0 w F a t ms A6 c6 D A7 c7 → FiP t ms D → (∀ y ∈ t.txs, y.tk.length ≤ 1048576) → D.length ≤ 1048576 → K0 A7 D.length c7 w) :
    ∀ (N i : Nat) (w : World) (F : Nat → Prop) (t : Tb) (ms : List RowM) (A6 : Option Addr) (c6 : Nat) (D : List SpM) (A7 : Option Addr) (c7 : Nat) (hz : Int), ops.length - i = N → i ≤ ops.length → FiM w0 w F a t ms A6 c6 D A7 c7 → FiP t ms D → hz ≤ t.hor → t.txs.length ≤ i → D.length ≤ i → (∀ y ∈ t.txs, y.tk.length ≤ sumR (ops.take i)) →
      f_law14_MvccFirst.l0 (N + 1) (some ⟨a, 0, none⟩) A6 ms.length c6 A7 D.length c7 hz Ao ops.length co (ops.length : Int) (i : Int) w K0 Kr
  | N, i, w, F, t, ms, A6, c6, D, A7, c7, hz, hN, hi, M, P, hh, ht, hD, htk => by
    unfold f_law14_MvccFirst.l0
    by_cases hlt : i < ops.length
    · cases N with
      | zero => omega
      | succ N =>
        have hbl : Below w0.heap.size w0 w := M.lt.bl
        have kB : Keeps (fun k => w0.heap.size ≤ k) w0 w := ⟨hbl.os, hbl.tape, hbl.output, hbl.size, fun k hk _ => hbl.block k hk⟩
        have hR := hops.row.keeps Eop kB (fun a ha h => by have := hops.lt (List.ne_nil_of_length_pos (by omega)) a ha; omega)
        obtain ⟨g, rfl⟩ := hR.addr (by omega)
        have hmem := List.getElem_mem hlt
        have hok : OkOp w ops[i] := (hops.ok _ hmem).keeps kB fun hne a ha h => by have := (hops.ok _ hmem).lt hne a ha; omega
        have hst := sumR_take hlt
        have hsl := sumR_le ops (i + 1)
        have hml := P.len
        have htk' := op_tk (o := ops[i]) htk
        have hle := op_len t ops[i]
        have hhor := hor_op M.lt.tb.ok ops[i]
        refine sel_t (by simpa using hlt) (optB_some rfl (req_intro (by simp; omega) ?_))
        rw [Int.toNat_natCast]
        refine ldI_intro (op_c0 hR hlt) (ldI_intro (op_c1 hR hlt) (ldS_intro (op_c2 hR hlt) (box3 ops[i] fun w1 b1 e1 h1 g1 s1 => ?_)))
        have next : ∀ (w' : World) (F' : Nat → Prop) (ms' : List RowM) (A6' : Option Addr) (c6' : Nat) (D' : List SpM) (A7' : Option Addr) (c7' : Nat) (t' : Tb), t' = t.op ops[i] → FiM w0 w' F' a t' ms' A6' c6' D' A7' c7' → FiP t' ms' D' → D'.length ≤ i + 1 →
            f_law14_MvccFirst.j1 (some ⟨a, 0, none⟩) hz w' (fun x w2 => ∀ _ : Fr, f_law14_MvccFirst.l0 (N + 1) (some ⟨a, 0, none⟩) A6' ms'.length c6' A7' D'.length c7' x (some g) ops.length co (ops.length : Int) (IntKind.i64.wrap ((i : Int) + 1)) w2 K0 Kr) (fun b w2 => ∀ _ : Fr, Kr b w2) := fun w' F' ms' A6' c6' D' A7' c7' t' et M' P' hD' => by
          subst et
          refine fi_j1 M' (by omega) fun w2 M2 _ => ?_
          rw [i64n (by omega)]
          exact fi_l0 hops hs hK N (i + 1) w2 F' _ ms' A6' c6' D' A7' c7' _ (by omega) (by omega) M2 P' (Int.le_refl _) (by omega) hD' (by rw [hst]; exact htk')
        have M1 := M.below g1
        have ok1 := hok.below g1
        have hws := hbl.size
        have hoF : ops[i].refs ≠ [] → ∀ q, ops[i].A = some q → q.block < w0.heap.size := fun hne q hq => (hops.ok _ hmem).lt hne q hq
        have hb1F : ¬ F b1 := fun hF => by have := LTb.lt M.lt hF; omega
        generalize ho : ops[i] = o at *
        refine (LT.last M1.lt).mono fun e w2 he => ?_
        obtain ⟨rfl, hw⟩ := he
        subst w2
        refine ⟨_, rfl, hb_ldI0 h1 rfl ?_⟩
        by_cases q1 : o.kind = 1
        · have hop : t.op o = t.begin.1 := by unfold Tb.op; rw [if_pos q1]
          refine sel_t (by simp [q1]) ((LT.begin M1.lt (by omega)).mono fun e w2 he => ?_)
          obtain ⟨rfl, F2, T2, k2, f2⟩ := he
          refine ⟨_, _, rfl, ?_⟩
          have M2 := M1.op T2 k2 f2
          by_cases h8 : 8 ≤ t.lives.length
          · have hbg : t.begin = (t, 0, 142) := by unfold Tb.begin; rw [if_pos h8]
            rw [hbg] at M2 hop ⊢
            have M2 : FiM w0 w2 F2 a t ms A6 c6 D A7 c7 := M2
            have le8 := M.lt.tb.ok.le8
            refine sel_f rfl (sel_t rfl (sel_f rfl ((LT.live M2.lt).mono fun e w3 he => ?_)))
            obtain ⟨A3, c3, rfl, o3, T3, g3⟩ := he
            refine ⟨A3, _, c3, rfl, sel_f (by simp; omega) (sel_f rfl ?_)⟩
            exact next w3 F2 ms A6 c6 D A7 c7 t hop.symm (M2.below g3) P (by omega)
          · have hbg : t.begin = (⟨t.txs ++ [⟨t.last, [], true, -1⟩], t.last⟩, (t.txs.length : Int) + 1, 0) := by unfold Tb.begin; rw [if_neg h8]
            rw [hbg] at M2 hop ⊢
            refine sel_t rfl (sel_f (by rw [i64n (by omega), hml]; simp) (sel_f rfl (sel_t rfl ?_)))
            refine put_e RTrm Erm (by decide) M2.s rfl ⟨none, 0, []⟩ rfl M2.lt.bl.size (by omega) fun A3 c3 w3 o3 k3 f3 => ?_
            exact next w3 F2 _ _ c3 D A7 c7 _ hop.symm (M2.push6 o3 k3 f3) (P.begin rfl) (by omega)
        refine sel_f (by simpa using q1) ?_
        by_cases q2 : o.kind = 2
        · have hop : t.op o = (t.touch o.n o.refs).1 := by unfold Tb.op; rw [if_neg q1, if_pos q2]
          refine sel_t (by simp [q2]) (hb_ldI (j := 1) h1 rfl (hb_ldS (j := 2) h1 rfl ((LT.touch M1.lt ok1.n ok1.r (by have := ok1.len; omega) ok1.rr fun hne q hq hF => by have := hoF hne q hq; have := M.lt.ge _ hF; omega).mono fun e w2 he => ?_)))
          obtain ⟨rfl, F2, T2, k2, f2⟩ := he
          refine ⟨_, rfl, ?_⟩
          have M2 := M1.op T2 k2 fun k hk => .inl (f2 k hk)
          have h12 := h1.keeps k2 hb1F
          cases hx : t.get o.n with
          | none =>
            have hto : t.touch o.n o.refs = (t, 141) := by unfold Tb.touch; rw [hx]
            rw [hto] at M2 hop ⊢
            exact sel_f rfl (next w2 F2 ms A6 c6 D A7 c7 t hop.symm M2 P (by omega))
          | some x =>
            obtain ⟨p1, p2, p3⟩ := Tb.get_some hx
            have hlx := (List.getElem?_eq_some_iff.1 p2).1
            have hto := touch_some hx o.refs
            rw [hto] at M2 hop ⊢
            have M2 : FiM w0 w2 F2 a (t.put o.n { x with tk := x.tk ++ o.refs }) ms A6 c6 D A7 c7 := M2
            have hlm : (o.n - 1).toNat < ms.length := by omega
            obtain ⟨m, hm⟩ : ∃ m, ms[(o.n - 1).toNat]? = some m := ⟨_, List.getElem?_eq_getElem hlm⟩
            have hmt : m.tk = x.tk := P.at_ hm p2
            have hmm := List.mem_of_getElem? hm
            have hm' : ms[(o.n - 1).toNat] = m := by rw [List.getElem?_eq_getElem hlm] at hm; injection hm
            refine sel_t rfl (drW_intro ?_)
            have kd : Keeps (fun _ => False) w2 w2.drew := (Keeps.refl _ _).drew
            have M3 := M2.keeps kd fun k hk => hk.elim
            have h13 := h12.keeps kd id
            have rr3 : RR w2.drew o.A o.refs := (ok1.rr.keeps' k2 fun hne q hq hF => by have := hoF hne q hq; have := M.lt.ge _ hF; omega).keeps kd fun _ _ => id
            have s23 : w2.drew.heap.size = w2.heap.size := rfl
            have s12 := k2.size
            generalize w2.drew = w3 at M3 h13 rr3 s23
            have hc6 := M3.s.reads Erm
            obtain ⟨g6, rfl⟩ := hc6.addr (by omega)
            have hcell : w3.cell? (g6.add ((o.n - 1).toNat * 1)) = some (.slice m.A m.tk.length m.c) := by
              rw [hc6.c0 Erm hlm, hm']; rfl
            refine ⟨fun w' => HB w' b1 #[.int .i64 o.kind, .int .i64 o.n, .slice o.A o.refs.length o.c] 32 ∧ w'.cell? (g6.add ((o.n - 1).toNat * 1)) = some (.slice m.A m.tk.length m.c), ⟨h13, hcell⟩, ?_⟩
            refine ⟨_, fun w' h => h.1.cell 1, _, fun w' h => h.1.cell 1, optB_some rfl ?_⟩
            have hreq : decide (0 ≤ (IntKind.i64.wrap (o.n - 1)) ∧ (IntKind.i64.wrap (o.n - 1)) < (ms.length : Int)) = true := by
              rw [i64p p1 ok1.n.2]; simp; omega
            refine req_intro hreq ⟨_, _, _, fun w' h => by rw [i64p p1 ok1.n.2]; exact h.2, _, _, _, fun w' h => h.1.cell 2, ?_⟩
            have hxl := htk x (Tb.get_mem hx)
            refine app_row2 RTrf Erf (by decide) (M3.r m hmm) rfl rr3.rowE rfl (fun hA => ok1.z hA) M3.lt.bl.size (by rw [hmt]; omega) fun A4 c4 w4 o4 k4 f4 => ?_
            have hmb : ∀ q, m.A = some q → q.block < w.heap.size := fun q hq => ((M.r m hmm).block q hq).2
            have h14 := h13.keeps k4 fun ⟨q, hq, e⟩ => by have := hmb q hq; omega
            obtain ⟨g', eg, hset⟩ := M3.set6 hm o4 k4 f4 (K := fun w5 => f_law14_MvccFirst.j1 (some ⟨a, 0, none⟩) hz w5 (fun x w2 => ∀ _ : Fr, f_law14_MvccFirst.l0 (N + 1) (some ⟨a, 0, none⟩) (some g6) ms.length c6 A7 D.length c7 x (some g) ops.length co (ops.length : Int) (IntKind.i64.wrap ((i : Int) + 1)) w2 K0 Kr) (fun b w2 => ∀ _ : Fr, Kr b w2)) fun w5 M5 => by
              have := next w5 F2 (ms.set (o.n - 1).toNat ⟨A4, c4, m.tk ++ o.refs⟩) (some g6) c6 D A7 c7 _ hop.symm M5 (by rw [hmt]; exact P.touch hx) (by omega)
              rw [List.length_set] at this
              exact this
            injection eg with eg; subst eg
            refine ⟨A4, _, c4, rfl, ⟨h14, k4.cell hcell fun ⟨q, hq, e⟩ => (M3.nm m hmm q hq).2.1 _ rfl (by rw [add_block] at e; exact e.symm)⟩, optB_some rfl (req_intro hreq ?_)⟩
            rw [i64p p1 ok1.n.2]
            exact hset
        refine sel_f (by simpa using q2) ?_
        by_cases q3 : o.kind = 3
        · have hop : t.op o = (t.commit o.n).1 := by unfold Tb.op; rw [if_neg q1, if_neg q2, if_pos q3]
          refine sel_t (by simp [q3]) (hb_ldI (j := 1) h1 rfl ((LT.start M1.lt ok1.n).mono fun e w2 he => ?_))
          obtain ⟨rfl, hw⟩ := he
          subst w2
          refine ⟨_, _, rfl, hb_ldI (j := 1) h1 rfl ((LT.commit M1.lt ok1.n).mono fun e w2 he => ?_)⟩
          obtain ⟨rfl, F2, T2, k2, f2⟩ := he
          refine ⟨_, _, rfl, ?_⟩
          have M2 := M1.op T2 k2 fun k hk => .inl (f2 k hk)
          have h12 := h1.keeps k2 hb1F
          -- behind a commit that left the last time
          have idle : ∀ t', t' = t.op o → t'.last = t.last → FiM w0 w2 F2 a t' ms A6 c6 D A7 c7 → FiP t' ms D → Calls Try.prog 13 #[.pointer (some ⟨a, 0, none⟩)] w2 fun e w3 => ∃ x : Int, e = .returned (.int .i64 x) ∧ sel (x != t.last) (Kr false w3)
              (f_law14_MvccFirst.j1 (some ⟨a, 0, none⟩) hz w3 (fun x w2 => ∀ _ : Fr, f_law14_MvccFirst.l0 (N + 1) (some ⟨a, 0, none⟩) A6 ms.length c6 A7 D.length c7 x (some g) ops.length co (ops.length : Int) (IntKind.i64.wrap ((i : Int) + 1)) w2 K0 Kr) (fun b w2 => ∀ _ : Fr, Kr b w2)) := fun t' et hl Mt Pt => (LT.last Mt.lt).mono fun e w3 he => by
            obtain ⟨rfl, hw⟩ := he
            subst w3
            exact ⟨_, rfl, sel_f (by rw [hl]; simp) (next w2 F2 ms A6 c6 D A7 c7 t' et Mt Pt (by omega))⟩
          cases hx : t.get o.n with
          | none =>
            have hc : t.commit o.n = (t, 0, 141) := by unfold Tb.commit; rw [hx]
            rw [hc] at M2 hop ⊢
            exact sel_f rfl (idle t hop.symm rfl M2 P)
          | some x =>
            have hso : t.startOf o.n = (x.start, 0) := by unfold Tb.startOf; rw [hx]
            rw [hso]
            obtain ⟨p1, p2, p3⟩ := Tb.get_some hx
            have hlx := (List.getElem?_eq_some_iff.1 p2).1
            have hlm : (o.n - 1).toNat < ms.length := by omega
            obtain ⟨m, hm⟩ : ∃ m, ms[(o.n - 1).toNat]? = some m := ⟨_, List.getElem?_eq_getElem hlm⟩
            have hmt : m.tk = x.tk := P.at_ hm p2
            have hmm := List.mem_of_getElem? hm
            have hm' : ms[(o.n - 1).toNat] = m := by rw [List.getElem?_eq_getElem hlm] at hm; injection hm
            have hreq : decide (0 ≤ (IntKind.i64.wrap (o.n - 1)) ∧ (IntKind.i64.wrap (o.n - 1)) < (ms.length : Int)) = true := by
              rw [i64p p1 ok1.n.2]; simp; omega
            have hcell : ∀ {w' : World} {F' : Nat → Prop} {t' : Tb}, FiM w0 w' F' a t' ms A6 c6 D A7 c7 → ∃ g6, A6 = some g6 ∧ w'.cell? (g6.add ((IntKind.i64.wrap (o.n - 1)).toNat * 1)) = some (.slice m.A m.tk.length m.c) := fun M' => by
              have hc6 := M'.s.reads Erm
              obtain ⟨g6, rfl⟩ := hc6.addr (by omega)
              refine ⟨g6, rfl, ?_⟩
              rw [i64p p1 ok1.n.2, hc6.c0 Erm hlm, hm']; rfl
            by_cases htr : t.try_ o.n = 0
            · obtain ⟨hcl, hmx⟩ := Tb.try_zero hx htr
              by_cases htk0 : x.tk = []
              · have hc : t.commit o.n = (t.put o.n { x with live := false }, x.start, 0) := by unfold Tb.commit; rw [hx]; simp only; rw [if_neg (by simp [htr]), if_pos htk0]
                rw [hc] at M2 hop ⊢
                have M2 : FiM w0 w2 F2 a (t.put o.n { x with live := false }) ms A6 c6 D A7 c7 := M2
                obtain ⟨g6, rfl, hc6⟩ := hcell M2
                refine sel_t rfl (hb_ldI (j := 1) h12 rfl (optB_some rfl (req_intro hreq (ldS_intro hc6 (sel_f (by rw [hmt, htk0]; rfl) ?_)))))
                exact idle _ hop.symm rfl M2 (P.step (stays_put hx (l := t.last)) (put_same t o.n hx (y := { x with live := false }) Tx.tk rfl))
              · have hc : t.commit o.n = (⟨(t.put o.n { x with live := false, at_ := t.last + 1 }).txs, t.last + 1⟩, t.last + 1, 0) := by unfold Tb.commit; rw [hx]; simp only; rw [if_neg (by simp [htr]), if_neg htk0]
                rw [hc] at M2 hop ⊢
                have M2 : FiM w0 w2 F2 a ⟨(t.put o.n { x with live := false, at_ := t.last + 1 }).txs, t.last + 1⟩ ms A6 c6 D A7 c7 := M2
                obtain ⟨g6, rfl, hc6⟩ := hcell M2
                have hpos : 0 < m.tk.length := by rw [hmt]; exact List.length_pos_iff.2 htk0
                have hl1 := M.lt.tb.ok.l1
                have hl0 := M.lt.tb.ok.l0
                simp only [mxT] at hl1
                refine sel_t rfl (hb_ldI (j := 1) h12 rfl (optB_some rfl (req_intro hreq (ldS_intro hc6 (sel_t (by simpa using hpos) (sel_f ?_ ((LT.last M2.lt).mono fun e w3 he => ?_)))))))
                · rw [w64_in (by omega)]; simp
                obtain ⟨rfl, hw⟩ := he
                subst w3
                refine ⟨_, rfl, sel_f (by simp) (hb_ldI (j := 1) h12 rfl (optB_some rfl (req_intro hreq (ldS_intro hc6 ?_))))⟩
                refine put_e RTsp Esp (by decide) M2.o rfl ⟨x.start, t.last + 1, m.A, m.c, m.tk⟩ rfl M2.lt.bl.size (by omega) fun A3 c3 w3 o3 k3 f3 => ?_
                exact next w3 F2 ms (some g6) c6 _ _ c3 _ hop.symm (M2.push7 o3 k3 f3) (P.commit hx hcl hm) (by simp; omega)
            · have hc : t.commit o.n = (t.put o.n { x with live := false }, 0, t.try_ o.n) := by unfold Tb.commit; rw [hx]; simp only; rw [if_pos htr]
              rw [hc] at M2 hop ⊢
              exact sel_f (by simpa using htr) (idle _ hop.symm rfl M2 (P.step (stays_put hx (l := t.last)) (put_same t o.n hx (y := { x with live := false }) Tx.tk rfl)))
        refine sel_f (by simpa using q3) ?_
        by_cases q4 : o.kind = 4
        · have hop : t.op o = (t.abort o.n).1 := by unfold Tb.op; rw [if_neg q1, if_neg q2, if_neg q3, if_pos q4]
          refine sel_t (by simp [q4]) (hb_ldI (j := 1) h1 rfl ((LT.abort M1.lt ok1.n).mono fun e w2 he => ?_))
          obtain ⟨rfl, F2, T2, k2, f2⟩ := he
          refine ⟨_, rfl, ?_⟩
          have M2 := M1.op T2 k2 fun k hk => .inl (f2 k hk)
          refine next w2 F2 ms A6 c6 D A7 c7 _ hop.symm M2 ?_ (by omega)
          cases hx : t.get o.n with
          | none =>
            have hc : t.abort o.n = (t, 141) := by unfold Tb.abort; rw [hx]
            rw [hc]; exact P
          | some x =>
            rw [abort_some hx]
            exact P.step (stays_put hx (l := t.last)) (put_same t o.n hx (y := { x with live := false }) Tx.tk rfl)
        · have hop : t.op o = t := by unfold Tb.op; rw [if_neg q1, if_neg q2, if_neg q3, if_neg q4]
          exact sel_f (by simpa using q4) (next w1 F ms A6 c6 D A7 c7 t hop.symm M1 P (by omega))
    · refine sel_f (by simpa using hlt) (hK w F t ms A6 c6 D A7 c7 M P (fun y hy => ?_) (by omega))
      have := htk y hy
      have := sumR_le ops i
      omega
/-! ### of two committed, one ahead -/
theorem fi_l4 {w0 : World} {b23 : Nat} {e : SpM} {A : Option Addr} {c : Nat} {D : List SpM} {t23 : TypeId} (h23 : HB w0 b23 #[.int .i64 e.start, .int .i64 e.at_, .slice e.A e.refs.length e.c] t23) (hR : RowE spE 3 w0 A D) (hl : D.length ≤ 1048576) (he : RR w0 e.A e.refs) (hel : e.refs.length ≤ 1048576)
    (hd : ∀ d ∈ D, RR w0 d.A d.refs ∧ d.refs.length ≤ 1048576 ∧ SpOk e d) {K7 : World → Prop} {Kr : Bool → World → Prop} (hK : ∀ w', Below w0.heap.size w0 w' → K7 w') : ∀ (N i : Nat) (w : World), D.length - i = N → i ≤ D.length → Below w0.heap.size w0 w →
      f_law14_MvccFirst.l4 (N + 1) ⟨b23, 0, none⟩ A D.length c (D.length : Int) (i : Int) w K7 Kr
  | N, i, w, hN, hi, hk => by
    unfold f_law14_MvccFirst.l4
    by_cases hlt : i < D.length
    · cases N with
      | zero => omega
      | succ N =>
        have hR' := hR.below Esp hk
        obtain ⟨g, rfl⟩ := hR'.addr (by omega)
        obtain ⟨d1, d2, d3⟩ := hd _ (List.getElem_mem hlt)
        refine sel_t (by simpa using hlt) (optB_some rfl (req_intro (by simp; omega) ?_))
        rw [Int.toNat_natCast]
        refine ldI_intro (hR'.c0 Esp hlt) (ldI_intro (hR'.cj hlt (j := 1) (by decide)) (ldS_intro (hR'.cj hlt (j := 2) (by decide)) (box3 ⟨D[i].start, D[i].at_, D[i].A, D[i].c, D[i].refs⟩ fun w1 b1 e1 h1 g1 s1 => ?_)))
        have hk1 : Below w0.heap.size w0 w1 := hk.trans (g1.mono hk.size)
        have h231 := h23.below hk1
        refine hb_ldI0 h1 rfl (hb_ldI (j := 1) h231 rfl ?_)
        by_cases q : D[i].start < e.at_
        · refine sel_t (by simpa using q) (hb_ldS (j := 2) h231 rfl (hb_ldS (j := 2) h1 rfl ((meet_ok (by omega) (by omega) (he.below hk1) (d1.below hk1)).mono fun e' w2 he' => ?_)))
          obtain ⟨rfl, g2⟩ := he'
          have hno : common e.refs D[i].refs = false := Bool.eq_false_iff.2 fun h => d3 ⟨q, h⟩
          refine ⟨_, rfl, sel_f (by rw [hno]) ?_⟩
          rw [i64n (by omega)]
          exact fi_l4 h23 hR hl he hel hd hK N (i + 1) w2 (by omega) (by omega) (hk1.trans (g2.mono hk1.size))
        · refine sel_f (by simpa using q) ?_
          rw [i64n (by omega)]
          exact fi_l4 h23 hR hl he hel hd hK N (i + 1) w1 (by omega) (by omega) hk1
    · exact sel_f (by simpa using hlt) (hK w hk)
theorem fi_l3 {w0 : World} {A : Option Addr} {c : Nat} {D : List SpM} (hR : RowE spE 3 w0 A D) (hc : D.length ≤ c) (hl : D.length ≤ 1048576) (hd : ∀ d ∈ D, RR w0 d.A d.refs ∧ d.refs.length ≤ 1048576) (hp : D.Pairwise SpOk) {K5 : World → Prop} {Kr : Bool → World → Prop} (hK : ∀ w', Below w0.heap.size w0 w' → K5 w') : ∀ (N i : Nat) (w : World), D.length - i = N → i ≤ D.length → Below w0.heap.size w0 w →
      f_law14_MvccFirst.l3 (N + 1) A D.length c A D.length c (D.length : Int) (i : Int) w K5 Kr
  | N, i, w, hN, hi, hk => by
    unfold f_law14_MvccFirst.l3
    by_cases hlt : i < D.length
    · cases N with
      | zero => omega
      | succ N =>
        have hR' := hR.below Esp hk
        obtain ⟨g, rfl⟩ := hR'.addr (by omega)
        obtain ⟨d1, d2⟩ := hd _ (List.getElem_mem hlt)
        refine sel_t (by simpa using hlt) (optB_some rfl (req_intro (by simp; omega) ?_))
        rw [Int.toNat_natCast]
        refine ldI_intro (hR'.c0 Esp hlt) (ldI_intro (hR'.cj hlt (j := 1) (by decide)) (ldS_intro (hR'.cj hlt (j := 2) (by decide)) (box3 ⟨D[i].start, D[i].at_, D[i].A, D[i].c, D[i].refs⟩ fun w1 b1 e1 h1 g1 s1 => ?_)))
        have hk1 : Below w0.heap.size w0 w1 := hk.trans (g1.mono hk.size)
        rw [i64n (by omega), Int.toNat_natCast]
        refine req_intro (by simp; omega) ?_
        have hdl : D.length - (i + 1) = (D.drop (i + 1)).length := by rw [List.length_drop]
        have hsub : ∀ d ∈ D.drop (i + 1), d ∈ D := fun d hd => List.mem_of_mem_drop hd
        have hpd : ∀ d ∈ D.drop (i + 1), SpOk D[i] d := by
          have := hp.sublist (List.drop_sublist i D)
          rw [List.drop_eq_getElem_cons hlt] at this
          exact (List.pairwise_cons.1 this).1
        rw [hdl]
        refine ⟨_, fi_l4 (w0 := w1) (e := D[i]) h1 (((hR.below Esp hk1)).slA hc (i + 1)) (by rw [List.length_drop]; omega) (d1.below hk1) d2 (fun d hdm => ⟨(hd d (hsub d hdm)).1.below hk1, (hd d (hsub d hdm)).2, hpd d hdm⟩) (fun w2 g2 _ => ?_) _ 0 w1 rfl (by omega) (.refl _ _)⟩
        exact fi_l3 hR hc hl hd hp hK N (i + 1) w2 (by omega) (by omega) (hk1.trans (g2.mono hk1.size))
    · exact sel_f (by simpa using hlt) (hK w hk)
theorem MvccFirst_row {w : World} {x : Int} (hx : (Lit.int .i64 x).wf = true) {A : Option Addr} {c : Nat} {ops : List MOp} (h : ROps w A ops) (hs : ops.length + sumR ops ≤ 1048575) :
    Calls Try.prog 4 #[.int .i64 x, .slice A ops.length c] w fun e w' => e = .returned (.bool true) ∧ Below w.heap.size w w' := by
  apply f_law14_MvccFirst.ok
  unfold f_law14_MvccFirst.wp
  refine (LT.new w x).mono fun e w1 he => ?_
  obtain ⟨F, a, rfl, T1⟩ := he
  refine ⟨_, rfl, sel_f rfl ((alive_ok w1).mono fun e w2 he => ?_)⟩
  obtain ⟨rfl, g3⟩ := he
  have T3 : LT w w2 F a _ := T1.below g3
  generalize w2 = w3 at *
  refine ⟨_, rfl, sel_f rfl (alW_intro ?_)⟩
  have o4 := OwnE.empty (enc := rmE) (k := 1) (w := w3) (B := w.heap.size) (e := 30) T3.bl.size
  have g4 : Below w3.heap.size w3 (w3.alloc (.cells #[] 30)) := (Below.refl _ _).alloc (Nat.le_refl _) _
  have s4 : (w3.alloc (.cells #[] 30)).heap.size = w3.heap.size + 1 := by simp
  generalize w3.alloc (.cells #[] 30) = w4 at o4 g4 s4
  have T4 : LT w w4 F a _ := T3.below g4
  refine alW_intro ?_
  have o5 := OwnE.empty (enc := spE) (k := 3) (w := w4) (B := w.heap.size) (e := 51) T4.bl.size
  have g5 : Below w4.heap.size w4 (w4.alloc (.cells #[] 51)) := (Below.refl _ _).alloc (Nat.le_refl _) _
  generalize w4.alloc (.cells #[] 51) = w5 at o5 g5
  have T5 : LT w w5 F a _ := T4.below g5
  have M5 : FiM w w5 F a (Tb.new x) [] (some ⟨w3.heap.size, 0, none⟩) 0 [] (some ⟨w4.heap.size, 0, none⟩) 0 := by
    refine ⟨T5, o4.below g5, o5, by simp, fun i j m m' hm => by simp at hm, fun g hg hF => ?_, fun g hg hF => ?_, fun g q hg hq => ?_, by simp⟩
    · injection hg with hg; subst hg
      have := LTb.lt T3 hF; simp only at this; omega
    · injection hg with hg; subst hg
      have := LTb.lt T4 hF; simp only at this; omega
    · injection hg with hg; subst hg
      injection hq with hq; subst hq
      simp only; omega
  have P5 : FiP (Tb.new x) [] [] := ⟨by simp [Tb.new], by simp, List.Pairwise.nil⟩
  refine (LT.hor M5.lt).mono fun e w6 he => ?_
  obtain ⟨rfl, T6, g6⟩ := he
  have M6 := M5.below g6
  refine ⟨_, rfl, _, fi_l0 h hs (fun w7 F7 t ms A6 c6 D A7 c7 M P htk hD _ => ?_) ops.length 0 w6 F _ _ _ _ _ _ _ _ (by omega) (by omega) M6 P5 (Int.le_refl _) (by simp [Tb.new]) (by simp) (by simp [Tb.new])⟩
  refine ⟨_, fi_l3 (w0 := w7) (M.o.reads Esp) M.o.cap hD (fun d hd => ?_) P.ok (fun w8 g8 _ => ⟨rfl, (M.lt.bl).trans (g8.mono M.lt.bl.size)⟩) D.length 0 w7 (by omega) (by omega) (.refl _ _)⟩
  obtain ⟨j, m, y, e1, e2, e3, e4, e5, e6⟩ := P.lnk d hd
  have hm := List.mem_of_getElem? e1
  have hr := ((M.r m hm).reads Erf).rr
  rw [e4, e5] at hr
  refine ⟨hr, ?_⟩
  rw [← e5, P.at_ e1 e2]
  exact htk y (List.mem_of_getElem? e2)
end Go.Proofs.Ytbfcjnbjhpfdfaa.Rd
