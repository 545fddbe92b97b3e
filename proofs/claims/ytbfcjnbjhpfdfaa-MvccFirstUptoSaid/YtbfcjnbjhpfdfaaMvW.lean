/- MvccAlone, walked. Conditions: none. -/
import Derived.Test.YtbfcjnbjhpfdfaaMvV
namespace Go.Dn
open Go.RowKit
set_option linter.unusedVariables false
theorem op_last {t : Tb} (o : MOp) : (t.op o).last ≤ t.last + 1 := by
  unfold Tb.op
  split
  · unfold Tb.begin; split
    · simp only; omega
    · simp only; omega
  · split
    · unfold Tb.touch; split
      · simp only; omega
      · simp only [Tb.put]; omega
    · split
      · unfold Tb.commit; split
        · simp only; omega
        · split
          · simp only [Tb.put]; omega
          · split
            · simp only [Tb.put]; omega
            · simp only; omega
      · split
        · unfold Tb.abort; split
          · simp only; omega
          · simp only [Tb.put]; omega
        · omega
/-- nobody clashes with one that began at the last commit -/
theorem no_clash {t : Tb} (ok : TbOk t) {x : Tx} (h : t.last ≤ x.start) : t.clash x = false := by
  rw [Bool.eq_false_iff]
  intro hc
  obtain ⟨y, hy, h1, _⟩ := Tb.clash_iff.1 hc
  have := (ok.at_ y hy).1
  omega
theorem try_fresh {t : Tb} (ok : TbOk t) {n : Int} {x : Tx} (hx : t.get n = some x) (h : t.last ≤ x.start) (hm : t.last < mxT) : t.try_ n = 0 := by
  unfold Tb.try_
  rw [hx]
  simp only [no_clash ok h]
  rw [if_neg (by simp), if_neg (fun h2 => by omega)]
/-- one that begins -/
theorem begin_free {t : Tb} (h : t.lives.length < 8) : t.begin = (⟨t.txs ++ [⟨t.last, [], true, -1⟩], t.last⟩, (t.txs.length : Int) + 1, 0) := by
  unfold Tb.begin
  rw [if_neg (by omega)]
theorem get_new {t : Tb} : (⟨t.txs ++ [⟨t.last, [], true, -1⟩], t.last⟩ : Tb).get ((t.txs.length : Int) + 1) = some ⟨t.last, [], true, -1⟩ := by
  rw [get_append, if_pos rfl]; rfl
theorem touch_some {t : Tb} {n : Int} {x : Tx} (hx : t.get n = some x) (l : List Rf) : t.touch n l = (t.put n { x with tk := x.tk ++ l }, 0) := by
  unfold Tb.touch; rw [hx]
theorem abort_some {t : Tb} {n : Int} {x : Tx} (hx : t.get n = some x) : t.abort n = (t.put n { x with live := false }, 0) := by
  unfold Tb.abort; rw [hx]
end Go.Dn
namespace Go.Proofs.Ytbfcjnbjhpfdfaa.Rd
open Go.Dn Go.RowKit
set_option linter.unusedVariables false
set_option maxRecDepth 100000
/-! ### meet -/
theorem meet_l1 {A2 : Option Addr} {c2 b6 : Nat} {l2 : List Rf} {r : Rf} {t6 : TypeId} (hm : (l2.length : Int) ≤ 9223372036854775807) {K2 : World → Prop} {Kr : Bool → World → Prop} {w0 : World} (h6 : HB w0 b6 #[.bool r.1, .int .i64 r.2] t6) (r2 : RR w0 A2 l2)
    (h2 : ∀ w, Below w0.heap.size w0 w → r ∉ l2 → K2 w) (h1 : ∀ w, Below w0.heap.size w0 w → r ∈ l2 → Kr true w) : ∀ (N j : Nat) (w : World), l2.length - j = N → j ≤ l2.length → Below w0.heap.size w0 w → (r ∈ l2 → r ∈ l2.drop j) →
      f_law14_meet.l1 (N + 1) ⟨b6, 0, none⟩ A2 l2.length c2 (l2.length : Int) (j : Int) w K2 Kr
  | N, j, w, hN, hj, hk, hd => by
    unfold f_law14_meet.l1
    by_cases hlt : j < l2.length
    · cases N with
      | zero => omega
      | succ N =>
        obtain ⟨a2, rfl, q1, q2⟩ := (r2.below hk) j hlt
        refine sel_t (by simpa using hlt) (optB_some rfl (req_intro (by simp; omega) ?_))
        rw [Int.toNat_natCast]
        refine ⟨_, q1, ldI_intro q2 (box_rf l2[j] fun w1 b1 e1 hb1 g1 s1 => ?_)⟩
        have h61 := (h6.below hk).below g1
        have hk1 : Below w0.heap.size w0 w1 := hk.trans (g1.mono hk.size)
        refine hb_ldB0 h61 rfl (hb_ldI (j := 1) h61 rfl (hb_ldB0 hb1 rfl (hb_ldI (j := 1) hb1 rfl ?_)))
        by_cases he : r = l2[j]
        · refine sel_t (by rw [he]; simp) (h1 _ hk1 (by rw [he]; exact List.getElem_mem hlt))
        · refine sel_f ?_ ?_
          · rw [Bool.eq_false_iff]
            intro hh
            simp only [Bool.and_true, Bool.and_eq_true, beq_iff_eq] at hh
            exact he (Prod.ext hh.1 hh.2)
          · rw [i64n (by omega)]
            refine meet_l1 hm h6 r2 h2 h1 N (j + 1) _ (by omega) (by omega) hk1 fun hin => ?_
            have := hd hin
            rw [List.drop_eq_getElem_cons hlt, List.mem_cons] at this
            exact this.resolve_left he
    · refine sel_f (by simpa using hlt) (h2 w hk fun hin => ?_)
      have := hd hin
      rw [List.drop_eq_nil_of_le (by omega)] at this
      cases this
theorem meet_l0 {A1 A2 : Option Addr} {c1 c2 : Nat} {l1 l2 : List Rf} (hm1 : (l1.length : Int) ≤ 9223372036854775807) (hm : (l2.length : Int) ≤ 9223372036854775807) {K0 : World → Prop} {Kr : Bool → World → Prop} {w0 : World} (r1 : RR w0 A1 l1) (r2 : RR w0 A2 l2)
    (h2 : ∀ w, Below w0.heap.size w0 w → (∀ r ∈ l1, r ∉ l2) → K0 w) (h1 : ∀ w, Below w0.heap.size w0 w → (∃ r ∈ l1, r ∈ l2) → Kr true w) : ∀ (N i : Nat) (w : World), l1.length - i = N → i ≤ l1.length → Below w0.heap.size w0 w → (∀ r ∈ l1.take i, r ∉ l2) →
      f_law14_meet.l0 (N + 1) A2 l2.length c2 A1 l1.length c1 (l1.length : Int) (i : Int) w K0 Kr
  | N, i, w, hN, hi, hk, hd => by
    unfold f_law14_meet.l0
    by_cases hlt : i < l1.length
    · cases N with
      | zero => omega
      | succ N =>
        obtain ⟨a1, rfl, p1, p2⟩ := (r1.below hk) i hlt
        refine sel_t (by simpa using hlt) (optB_some rfl (req_intro (by simp; omega) ?_))
        rw [Int.toNat_natCast]
        refine ⟨_, p1, ldI_intro p2 (box_rf l1[i] fun w1 b1 e1 hb1 g1 s1 => ?_)⟩
        have hk1 : Below w0.heap.size w0 w1 := hk.trans (g1.mono hk.size)
        refine ⟨_, meet_l1 hm hb1 ((r2.below hk).below g1) (fun w2 k2 hno _ => ?_) (fun w2 k2 hin _ => h1 w2 (hk1.trans (k2.mono hk1.size)) ⟨_, List.getElem_mem hlt, hin⟩) _ 0 w1 rfl (by omega) (.refl _ _) fun h => h⟩
        rw [i64n (by omega)]
        refine meet_l0 hm1 hm r1 r2 h2 h1 N (i + 1) w2 (by omega) (by omega) (hk1.trans (k2.mono hk1.size)) fun r hr => ?_
        rw [take_app hlt] at hr
        rcases List.mem_append.1 hr with hr | hr
        · exact hd r hr
        · have : r = l1[i] := by simpa using hr
          rw [this]; exact hno
    · refine sel_f (by simpa using hlt) (h2 w hk fun r hr => hd r ?_)
      rw [List.take_of_length_le (by omega)]; exact hr
theorem meet_ok {w : World} {A1 A2 : Option Addr} {c1 c2 : Nat} {l1 l2 : List Rf} (hm1 : (l1.length : Int) ≤ 9223372036854775807) (hm : (l2.length : Int) ≤ 9223372036854775807) (r1 : RR w A1 l1) (r2 : RR w A2 l2) :
    Calls Try.prog 23 #[.slice A1 l1.length c1, .slice A2 l2.length c2] w fun e w' => e = .returned (.bool (common l1 l2)) ∧ Below w.heap.size w w' := by
  apply f_law14_meet.ok
  refine ⟨_, meet_l0 hm1 hm r1 r2 (fun w' k' hno _ => ⟨?_, k'⟩) (fun w' k' hin _ => ⟨?_, k'⟩) _ 0 w rfl (by omega) (.refl _ _) (by simp)⟩
  · have : common l1 l2 = false := Bool.eq_false_iff.2 fun h => by
      obtain ⟨r, h1, h2⟩ := common_iff.1 h
      exact hno r h1 h2
    rw [this]
  · rw [common_iff.2 hin]
/-! ### the calls before -/
theorem al_l0 {w0 : World} {a : Nat} {Ao : Option Addr} {co : Nat} {ops : List MOp} {K0 : World → Prop} (hops : ROps w0 Ao ops) (hl : ops.length ≤ 1048576) (hK : ∀ w F t, LT w0 w F a t → t.last ≤ 1048576 → t.txs.length ≤ 1048576 → K0 w) :
    ∀ (N i : Nat) (w : World) (F : Nat → Prop) (t : Tb), ops.length - i = N → i ≤ ops.length → LT w0 w F a t → t.txs.length ≤ i → t.last ≤ i → f_law14_MvccAlone.l0 (N + 1) (some ⟨a, 0, none⟩) Ao ops.length co (ops.length : Int) (i : Int) w K0
  | N, i, w, F, t, hN, hi, T, ht, hlast => by
    unfold f_law14_MvccAlone.l0
    by_cases hlt : i < ops.length
    · cases N with
      | zero => omega
      | succ N =>
        have hbl : Below w0.heap.size w0 w := T.bl
        have kB : Keeps (fun k => w0.heap.size ≤ k) w0 w := ⟨hbl.os, hbl.tape, hbl.output, hbl.size, fun k hk _ => hbl.block k hk⟩
        have hR := hops.row.keeps Eop kB (fun a ha h => by have := hops.lt (List.ne_nil_of_length_pos (by omega)) a ha; omega)
        obtain ⟨g, rfl⟩ := hR.addr (by omega)
        have hmem := List.getElem_mem hlt
        have hok : OkOp w ops[i] := (hops.ok _ hmem).keeps kB fun hne a ha h => by have := (hops.ok _ hmem).lt hne a ha; omega
        refine sel_t (by simpa using hlt) (optB_some rfl (req_intro (by simp; omega) ?_))
        rw [Int.toNat_natCast]
        refine ldI_intro (op_c0 hR hlt) (ldI_intro (op_c1 hR hlt) (ldS_intro (op_c2 hR hlt) (box3 ops[i] fun w1 b1 e1 h1 g1 s1 => ?_)))
        have T1 : LT w0 w1 F a t := T.below g1
        have ok1 := hok.below g1
        refine hb_ldI0 h1 rfl (hb_ldI (j := 1) h1 rfl (hb_ldS (j := 2) h1 rfl ((ask0 T1 ok1 (by omega) fun hne g hg hF => by have := T.ge _ hF; have := (hops.ok _ hmem).lt hne g hg; have := hbl.size; omega).mono fun e w2 he => ?_)))
        obtain ⟨A2, n2, c2, l2, b2, rfl, F2, T2, k2, f2⟩ := he
        refine ⟨A2, n2, c2, l2, b2, rfl, ?_⟩
        rw [i64n (by omega)]
        have h1 := op_len t ops[i]
        have h2 := op_last (t := t) ops[i]
        exact al_l0 hops hl hK N (i + 1) w2 F2 _ (by omega) (by omega) T2 (by omega) (by omega)
    · exact sel_f (by simpa using hlt) (hK w F t T (by omega) (by omega))
/-- all that are under way are given up -/
theorem al_l1 {w0 : World} {a : Nat} {A : Option Addr} {c B : Nat} {ns : List Int} (hn8 : ns.length ≤ 8) {K2 : World → Prop} {Kr : Bool → World → Prop} {lst : Int} {ln : Nat} (hK : ∀ w F t, LT w0 w F a t → t.last = lst → t.txs.length = ln → t.lives = [] → K2 w) :
    ∀ (N i : Nat) (w : World) (F : Nat → Prop) (t : Tb), ns.length - i = N → i ≤ ns.length → LT w0 w F a t → OwnI w B 3 A c ns → (∀ g, A = some g → ¬ F g.block) → t.lives = ns.drop i → t.last = lst → t.txs.length = ln → f_law14_MvccAlone.l1 (N + 1) (some ⟨a, 0, none⟩) A ns.length c (ns.length : Int) (i : Int) w K2 Kr
  | N, i, w, F, t, hN, hi, T, ho, hA, hlv, h1, h2 => by
    unfold f_law14_MvccAlone.l1
    by_cases hlt : i < ns.length
    · cases N with
      | zero => omega
      | succ N =>
        have hdrop : ns.drop i = ns[i] :: ns.drop (i + 1) := List.drop_eq_getElem_cons hlt
        have hmem : ns[i] ∈ t.lives := by rw [hlv, hdrop]; exact List.mem_cons_self
        obtain ⟨x, hx⟩ := Tb.mem_lives.1 hmem
        have hr := ho.reads
        obtain ⟨g, rfl, hc⟩ := hr i hlt
        have hn : W64 ns[i] := by
          obtain ⟨p1, _, _⟩ := Tb.get_some hx
          obtain ⟨bl, bw, L, W, hm, _⟩ := T.tb
          obtain ⟨v, hv, e⟩ := hm.all _ x hx
          exact e ▸ hm.lv.ok (v.n, v.p) (List.mem_map.2 ⟨v, hv, rfl⟩)
        refine sel_t (by simpa using hlt) (optB_some rfl (req_intro (by simp; omega) (ldI_intro (by rw [Int.toNat_natCast, Nat.mul_one]; exact hc) ((T.abort hn).mono fun e w2 he => ?_))))
        obtain ⟨rfl, F2, T2, k2, f2⟩ := he
        rw [abort_some hx] at T2 ⊢
        refine ⟨_, rfl, sel_f rfl ?_⟩
        rw [i64n (by omega)]
        refine al_l1 hn8 hK N (i + 1) w2 F2 (t.put ns[i] { x with live := false }) (by omega) (by omega) T2 (ho.keeps k2 hA) (fun g hg hF => hA g hg (f2 _ hF)) ?_ h1 (by simp [Tb.put, h2])
        rw [lives_put_dead hx rfl, hlv, hdrop, List.filter_cons_of_neg (by simp)]
        refine List.filter_eq_self.2 fun m hm => ?_
        have nd := t.lives_nd
        rw [hlv, hdrop, List.nodup_cons] at nd
        have : m ≠ ns[i] := fun e => nd.1 (e ▸ hm)
        simp [this]
    · refine sel_f (by simpa using hlt) (hK w F t T h1 h2 ?_)
      rw [hlv, List.drop_eq_nil_of_le (by omega)]
theorem MvccAlone_row {w : World} {Ao : Option Addr} {co : Nat} {ops : List MOp} (h : ROps w Ao ops) (hs : ops.length + sumR ops ≤ 1048575) {A1 : Option Addr} {c1 : Nat} {refs : List Rf} (r1 : RR w A1 refs) (q1 : ∀ r ∈ refs, W64 r.2) (z1 : A1 = none → c1 = 0 ∧ refs.length = 0) (p1 : refs ≠ [] → ∀ a, A1 = some a → a.block < w.heap.size) (s1 : refs.length ≤ 1048576)
    {A2 : Option Addr} {c2 : Nat} {oth : List Rf} (r2 : RR w A2 oth) (q2 : ∀ r ∈ oth, W64 r.2) (z2 : A2 = none → c2 = 0 ∧ oth.length = 0) (p2 : oth ≠ [] → ∀ a, A2 = some a → a.block < w.heap.size) (s2 : oth.length ≤ 1048576) (bt : Bool) :
    Calls Try.prog 5 #[.slice Ao ops.length co, .slice A1 refs.length c1, .slice A2 oth.length c2, .bool bt] w fun e w' => e = .returned (.bool true) ∧ Below w.heap.size w w' := by
  apply f_law14_MvccAlone.ok
  unfold f_law14_MvccAlone.wp
  refine (LT.new w 0).mono fun e w1 he => ?_
  obtain ⟨F, a, rfl, T1⟩ := he
  refine ⟨_, rfl, sel_f rfl ((alive_ok w1).mono fun e w2 he => ?_)⟩
  obtain ⟨rfl, g2⟩ := he
  have T2 : LT w w2 F a _ := T1.below g2
  refine ⟨_, rfl, sel_f rfl ⟨_, al_l0 (t := Tb.new 0) h (by omega) (fun w3 F3 t T3 hlast hlen _ => ?_) ops.length 0 w2 F (by omega) (by omega) T2 (by simp [Tb.new]) (by simp [Tb.new, mxT])⟩⟩
  refine T3.live.mono fun e w4 he => ?_
  obtain ⟨A4, c4, rfl, o4, T4, g4⟩ := he
  have h8 := T3.tb.ok.le8
  refine ⟨A4, _, c4, rfl, _, al_l1 (w0 := w) h8 (lst := t.last) (ln := t.txs.length) (fun w5 F5 t5 T5 l5 n5 lv5 _ => ?_) t.lives.length 0 w4 F3 t (by omega) (by omega) T4 o4 (fun g hg hF => by have := (o4.block g hg).1; have := LTb.lt T3 hF; omega) (by simp) rfl rfl⟩
  have RB : ∀ {w' F' t'}, LT w w' F' a t' → RR w' A1 refs ∧ RR w' A2 oth := fun T => by
    have hbl : Below w.heap.size w _ := T.bl
    have kB : Keeps (fun k => w.heap.size ≤ k) w _ := ⟨hbl.os, hbl.tape, hbl.output, hbl.size, fun k hk _ => hbl.block k hk⟩
    exact ⟨r1.keeps' kB fun hne g hg h => by have := p1 hne g hg; omega, r2.keeps' kB fun hne g hg h => by have := p2 hne g hg; omega⟩
  have NF : ∀ {w' F' t'}, LT w w' F' a t' → (refs ≠ [] → ∀ g, A1 = some g → ¬ F' g.block) ∧ (oth ≠ [] → ∀ g, A2 = some g → ¬ F' g.block) := fun T => ⟨fun hne g hg hF => by have := p1 hne g hg; have := T.ge _ hF; omega, fun hne g hg hF => by have := p2 hne g hg; have := T.ge _ hF; omega⟩
  have ok5 := T5.tb.ok
  have l0 := ok5.l0
  have hmx : t5.last < mxT := by simp only [mxT]; omega
  refine (T5.begin (by omega)).mono fun e w6 he => ?_
  obtain ⟨rfl, F6, T6, _, _⟩ := he
  rw [begin_free (by rw [lv5]; decide)] at T6 ⊢
  have T6 : LT w w6 F6 a ⟨t5.txs ++ [⟨t5.last, [], true, -1⟩], t5.last⟩ := T6
  refine ⟨_, _, rfl, sel_f rfl ?_⟩
  have hn1 : W64 ((t5.txs.length : Int) + 1) := by unfold W64; omega
  refine (T6.touch hn1 q1 (by omega) (RB T6).1 (NF T6).1).mono fun e w7 he => ?_
  obtain ⟨rfl, F7, T7, _, _⟩ := he
  rw [touch_some get_new] at T7 ⊢
  refine ⟨_, rfl, sel_f rfl ?_⟩
  generalize hn : ((t5.txs.length : Int) + 1) = n at *
  have T7 : LT w w7 F7 a ((⟨t5.txs ++ [⟨t5.last, [], true, -1⟩], t5.last⟩ : Tb).put n ⟨t5.last, [] ++ refs, true, -1⟩) := T7
  have hg6 : (⟨t5.txs ++ [⟨t5.last, [], true, -1⟩], t5.last⟩ : Tb).get n = some ⟨t5.last, [], true, -1⟩ := by rw [← hn]; exact get_new
  have hg7 : ((⟨t5.txs ++ [⟨t5.last, [], true, -1⟩], t5.last⟩ : Tb).put n ⟨t5.last, [] ++ refs, true, -1⟩).get n = some ⟨t5.last, refs, true, -1⟩ := by rw [Tb.get_put hg6, if_pos rfl]; rfl
  have hl7 : ((⟨t5.txs ++ [⟨t5.last, [], true, -1⟩], t5.last⟩ : Tb).put n ⟨t5.last, [] ++ refs, true, -1⟩).lives = [n] := by
    rw [lives_put_live hg6 rfl, lives_append rfl, lv5, hn]; rfl
  have hz7 : ((⟨t5.txs ++ [⟨t5.last, [], true, -1⟩], t5.last⟩ : Tb).put n ⟨t5.last, [] ++ refs, true, -1⟩).last = t5.last := rfl
  have hlen7 : ((⟨t5.txs ++ [⟨t5.last, [], true, -1⟩], t5.last⟩ : Tb).put n ⟨t5.last, [] ++ refs, true, -1⟩).txs.length = t5.txs.length + 1 := by simp [Tb.put]
  generalize (⟨t5.txs ++ [⟨t5.last, [], true, -1⟩], t5.last⟩ : Tb).put n ⟨t5.last, [] ++ refs, true, -1⟩ = t7 at T7 hg7 hl7 hz7 hlen7
  have ok7 := T7.tb.ok
  have ht7 := try_fresh ok7 hg7 (by rw [hz7]; exact Int.le_refl _) (by rw [hz7]; exact hmx)
  cases bt with
  | false =>
    refine sel_t rfl ((T7.commit hn1).mono fun e w8 he => ?_)
    obtain ⟨rfl, F8, T8, _, _⟩ := he
    refine ⟨_, _, rfl, sel_t (by rw [commit_code, ht7]; rfl) (T8.last.mono fun e w9 he => ?_)⟩
    obtain ⟨rfl, hw⟩ := he
    subst w9
    have hat : (t7.commit n).2.1 = (t7.commit n).1.last := by
      unfold Tb.commit
      rw [hg7]
      simp only
      rw [if_neg (by simp [ht7])]
      split
      · exact hz7.symm
      · rfl
    have hgone : (t7.commit n).1.get n = none := by
      unfold Tb.commit
      rw [hg7]
      simp only
      rw [if_neg (by simp [ht7])]
      split
      · rw [Tb.get_put hg7, if_pos rfl]; rfl
      · rw [get_last, Tb.get_put hg7, if_pos rfl]; rfl
    refine ⟨_, rfl, sel_t (by rw [hat]; simp) ((T8.abort hn1).mono fun e w9 he => ?_)⟩
    obtain ⟨rfl, F9, T9, _, _⟩ := he
    refine ⟨_, rfl, ?_, T9.bl⟩
    unfold Tb.abort
    rw [hgone]; rfl
  | true =>
    refine sel_f rfl ((T7.begin (by omega)).mono fun e w8 he => ?_)
    obtain ⟨rfl, F8, T8, _, _⟩ := he
    rw [begin_free (by rw [hl7]; simp)] at T8 ⊢
    have T8 : LT w w8 F8 a ⟨t7.txs ++ [⟨t7.last, [], true, -1⟩], t7.last⟩ := T8
    refine ⟨_, _, rfl, sel_f rfl ?_⟩
    have hn2 : W64 ((t7.txs.length : Int) + 1) := by unfold W64; omega
    refine (T8.touch hn2 q2 (by omega) (RB T8).2 (NF T8).2).mono fun e w9 he => ?_
    obtain ⟨rfl, F9, T9, _, _⟩ := he
    rw [touch_some get_new] at T9 ⊢
    refine ⟨_, rfl, sel_f rfl ?_⟩
    generalize hm : ((t7.txs.length : Int) + 1) = m at *
    have hnm : n ≠ m := by omega
    have T9 : LT w w9 F9 a ((⟨t7.txs ++ [⟨t7.last, [], true, -1⟩], t7.last⟩ : Tb).put m ⟨t7.last, [] ++ oth, true, -1⟩) := T9
    have hg8 : (⟨t7.txs ++ [⟨t7.last, [], true, -1⟩], t7.last⟩ : Tb).get m = some ⟨t7.last, [], true, -1⟩ := by rw [← hm]; exact get_new
    have hg9 : ((⟨t7.txs ++ [⟨t7.last, [], true, -1⟩], t7.last⟩ : Tb).put m ⟨t7.last, [] ++ oth, true, -1⟩).get m = some ⟨t7.last, oth, true, -1⟩ := by rw [Tb.get_put hg8, if_pos rfl]; rfl
    have hg9n : ((⟨t7.txs ++ [⟨t7.last, [], true, -1⟩], t7.last⟩ : Tb).put m ⟨t7.last, [] ++ oth, true, -1⟩).get n = some ⟨t5.last, refs, true, -1⟩ := by rw [Tb.get_put hg8, if_neg hnm, get_append, if_neg (by omega)]; exact hg7
    have hz9 : ((⟨t7.txs ++ [⟨t7.last, [], true, -1⟩], t7.last⟩ : Tb).put m ⟨t7.last, [] ++ oth, true, -1⟩).last = t7.last := rfl
    generalize (⟨t7.txs ++ [⟨t7.last, [], true, -1⟩], t7.last⟩ : Tb).put m ⟨t7.last, [] ++ oth, true, -1⟩ = t9 at T9 hg9 hg9n hz9
    have ok9 := T9.tb.ok
    have ht9 := try_fresh ok9 hg9 (by rw [hz9]; exact Int.le_refl _) (by rw [hz9, hz7]; exact hmx)
    refine (T9.commit hn2).mono fun e w10 he => ?_
    obtain ⟨rfl, F10, T10, _, _⟩ := he
    refine ⟨_, _, rfl, (T10.try_ hn1).mono fun e w11 he => ?_⟩
    obtain ⟨rfl, T11, _⟩ := he
    refine ⟨_, rfl, (T11.commit hn1).mono fun e w12 he => ?_⟩
    obtain ⟨rfl, F12, T12, _, _⟩ := he
    refine ⟨_, _, rfl, sel_f (by rw [commit_code, ht9]; rfl) (sel_f (by rw [commit_code]; simp) ?_)⟩
    have key : (t9.commit m).1.try_ n = if common refs oth then 140 else 0 := by
      have ok10 := ok9.commit m
      by_cases hoe : oth = []
      · have hc : (t9.commit m).1 = t9.put m ⟨t7.last, oth, false, -1⟩ := by
          unfold Tb.commit; rw [hg9]; simp only
          rw [if_neg (by simp [ht9]), if_pos hoe]
        rw [hc] at ok10 ⊢
        have hgn : (t9.put m ⟨t7.last, oth, false, -1⟩).get n = some ⟨t5.last, refs, true, -1⟩ := by rw [Tb.get_put hg9, if_neg hnm]; exact hg9n
        rw [try_fresh ok10 hgn (by show t9.last ≤ t5.last; omega) (by show t9.last < mxT; omega)]
        have : common refs oth = false := by
          rw [Bool.eq_false_iff]; intro hcm
          obtain ⟨r, _, hr⟩ := common_iff.1 hcm
          rw [hoe] at hr; cases hr
        rw [this]; rfl
      · have hc : (t9.commit m).1 = ⟨(t9.put m ⟨t7.last, oth, false, t9.last + 1⟩).txs, t9.last + 1⟩ := by
          unfold Tb.commit; rw [hg9]; simp only
          rw [if_neg (by simp [ht9]), if_neg hoe]
        rw [hc]
        have hgn : (⟨(t9.put m ⟨t7.last, oth, false, t9.last + 1⟩).txs, t9.last + 1⟩ : Tb).get n = some ⟨t5.last, refs, true, -1⟩ := by rw [get_last, Tb.get_put hg9, if_neg hnm]; exact hg9n
        have hcl : (⟨(t9.put m ⟨t7.last, oth, false, t9.last + 1⟩).txs, t9.last + 1⟩ : Tb).clash ⟨t5.last, refs, true, -1⟩ = common refs oth := by
          rw [Bool.eq_iff_iff, Tb.clash_iff, common_iff]
          constructor
          · rintro ⟨y, hy, hgt, r, hr, hr2⟩
            rcases Tb.mem_put hg9 hy with rfl | hy
            · exact ⟨r, hr2, hr⟩
            · have := (ok9.at_ y hy).1
              simp only at hgt; omega
          · rintro ⟨r, hr, hr2⟩
            exact ⟨_, Tb.put_self hg9, by simp only; omega, r, hr2, hr⟩
        unfold Tb.try_
        rw [hgn]
        simp only [hcl]
        by_cases hcm : common refs oth = true
        · rw [if_pos hcm, if_pos hcm]
        · rw [if_neg hcm, if_neg hcm, if_neg]
          rintro ⟨_, h3⟩
          simp only [mxT] at h3; omega
    unfold f_law14_MvccAlone.j2
    refine (meet_ok (by omega) (by omega) (RB T12).1 (RB T12).2).mono fun e w13 he => ?_
    obtain ⟨rfl, g13⟩ := he
    have T13 : LT w w13 F12 a _ := T12.below g13
    refine ⟨_, rfl, ?_⟩
    rw [key]
    by_cases hcm : common refs oth = true
    · rw [hcm]
      exact sel_t rfl fun _ => ⟨rfl, T13.bl⟩
    · have hcm : common refs oth = false := by simpa using hcm
      rw [hcm]
      exact sel_f rfl fun _ => ⟨rfl, T13.bl⟩
end Go.Proofs.Ytbfcjnbjhpfdfaa.Rd
