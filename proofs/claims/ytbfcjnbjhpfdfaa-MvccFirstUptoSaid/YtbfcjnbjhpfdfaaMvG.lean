/- The document's table in memory: rows of transactions; New, Is, Live, Horizon, common, put, walked. Conditions: none. -/
import Derived.Test.YtbfcjnbjhpfdfaaRecR
import Derived.Test.YtbfcjnbjhpfdfaaMvE
import Derived.Test.YtbfcjnbjhpfdfaaRdB
namespace Go.Dn
open Go.RowKit
set_option linter.unusedVariables false
def rfE (r : Rf) : List Value := [.bool r.1, .int .i64 r.2]
theorem Erf : Enc rfE 2 := ⟨fun _ => rfl, fun x u hu => by simp [rfE] at hu; rcases hu with rfl | rfl <;> rfl, by decide⟩
theorem RowE.rr {w : World} {A : Option Addr} {l : List Rf} (h : RowE rfE 2 w A l) : RR w A l := fun i hi => by
  obtain ⟨a, ha, h1⟩ := h i hi
  exact ⟨a, ha, h1 0 (by decide), h1 1 (by decide)⟩
theorem RR.rowE {w : World} {A : Option Addr} {l : List Rf} (h : RR w A l) : RowE rfE 2 w A l := fun i hi => by
  obtain ⟨a, ha, h1, h2⟩ := h i hi
  refine ⟨a, ha, fun j hj => ?_⟩
  match j, hj with
  | 0, _ => exact h1
  | 1, _ => exact h2
def inE (i : Int) : List Value := [.int .i64 i]
theorem Ein : Enc inE 1 := ⟨fun _ => rfl, fun x u hu => by simp [inE] at hu; subst hu; rfl, by decide⟩
theorem encs_in (l : List Int) : encs inE l = l.map (.int .i64) := by
  induction l with
  | nil => rfl
  | cons a l ih => simp only [encs, List.flatMap_cons, List.map_cons] at ih ⊢; rw [ih]; rfl
theorem OwnE.ints {w : World} {B e : Nat} {A : Option Addr} {c : Nat} {l : List Int} (h : OwnE inE 1 w B e A c l) : OwnI w B e A c l := by
  unfold OwnE at h
  rw [encs_in] at h; exact h
/-- a transaction as the document has it, in cells -/
structure TxM where
  start : Int
  A : Option Addr
  c : Nat
  tk : List Rf
  live : Bool
  at_ : Int
def TxM.tx (m : TxM) : Tx := ⟨m.start, m.tk, m.live, m.at_⟩
def txE (m : TxM) : List Value := [.int .i64 m.start, .slice m.A m.tk.length m.c, .bool m.live, .int .i64 m.at_]
theorem Etx : Enc txE 4 := ⟨fun _ => rfl, fun x u hu => by simp [txE] at hu; rcases hu with rfl | rfl | rfl | rfl <;> rfl, by decide⟩
/-- a row of transactions, all in the blocks G -/
structure RT (w : World) (G : Nat → Prop) (A : Option Addr) (ms : List TxM) : Prop where
  row : RowE txE 4 w A ms
  gA : ∀ a, A = some a → G a.block
  rf : ∀ m ∈ ms, RR w m.A m.tk ∧ ∀ a, m.A = some a → G a.block
  lt : ∀ k, G k → k < w.heap.size
theorem RT.keeps {S G : Nat → Prop} {w w' : World} {A : Option Addr} {ms : List TxM} (h : RT w G A ms) (hk : Keeps S w w') (hS : ∀ k, G k → ¬ S k) : RT w' G A ms :=
  ⟨h.row.keeps Etx hk fun a ha => hS _ (h.gA a ha), h.gA, fun m hm => ⟨(h.rf m hm).1.keeps hk fun a ha => hS _ ((h.rf m hm).2 a ha), (h.rf m hm).2⟩, fun k hk' => Nat.lt_of_lt_of_le (h.lt k hk') hk.size⟩
theorem RT.below {G : Nat → Prop} {w w' : World} {A : Option Addr} {ms : List TxM} (h : RT w G A ms) (hb : Below w.heap.size w w') : RT w' G A ms := h.keeps (S := fun _ => False) (.of_below hb) fun _ _ => id
def RTb (w : World) (G : Nat → Prop) (A : Option Addr) (l : List Tx) : Prop := ∃ ms, ms.map TxM.tx = l ∧ RT w G A ms
theorem RTb.keeps {S G : Nat → Prop} {w w' : World} {A : Option Addr} {l : List Tx} (h : RTb w G A l) (hk : Keeps S w w') (hS : ∀ k, G k → ¬ S k) : RTb w' G A l := by
  obtain ⟨ms, h1, h2⟩ := h
  exact ⟨ms, h1, h2.keeps hk hS⟩
theorem RTb.below {G : Nat → Prop} {w w' : World} {A : Option Addr} {l : List Tx} (h : RTb w G A l) (hb : Below w.heap.size w w') : RTb w' G A l := h.keeps (S := fun _ => False) (.of_below hb) fun _ _ => id
def tbV (A : Option Addr) (n c : Nat) (last : Int) : Value := .agg #[.slice A n c, .int .i64 last]
theorem hb_ldB {w : World} {b : Nat} {cs : Array Value} {t : TypeId} (h : HB w b cs t) {j : Nat} {x : Bool} (hj : cs[j]? = some (.bool x)) {K : Bool → Prop} (hk : K x) : ldB w ((⟨b, 0, none⟩ : Addr).add j) K := ⟨x, (h.cell j).trans hj, hk⟩
/-- a table laid into a cell of its own and read again -/
theorem out2 {w : World} {b : Nat} {cs : Array Value} {t : TypeId} (h : HB w b cs t) (hs : cs.size = 2) {A : Option Addr} {n c : Nat} {x : Int} {K : Option Addr → Nat → Nat → Int → World → Prop} (hk : ∀ w', Keeps (fun k => k = b) w w' → HB w' b #[.slice A n c, .int .i64 x] t → K A n c x w') :
    stW w (⟨b, 0, none⟩ : Addr) (.slice A n c) fun w1 => stW w1 ((⟨b, 0, none⟩ : Addr).add 1) (.int .i64 x) fun w2 => ldS w2 (⟨b, 0, none⟩ : Addr) fun A' n' c' => ldI w2 ((⟨b, 0, none⟩ : Addr).add 1) .i64 fun x' => K A' n' c' x' w2 := by
  obtain ⟨l⟩ := cs
  match l, hs with
  | [u, v], _ => exact hb_st0 h (by simp) fun w1 h1 k1 => hb_st (j := 1) h1 (by simp) fun w2 h2 k2 => hb_ldS0 h2 rfl (hb_ldI (j := 1) h2 rfl (hk w2 (k1.trans k2) h2))
/-- a transaction copied into a cell of its own -/
theorem box4 {w : World} {t : TypeId} {K : Nat → World → Prop} (m : TxM) (h : ∀ w' b, b = w.heap.size → HB w' b #[.int .i64 m.start, .slice m.A m.tk.length m.c, .bool m.live, .int .i64 m.at_] t → Below w.heap.size w w' → w.heap.size < w'.heap.size → K b w') :
    alW w (.cells #[.int .i64 (0 : Int), .slice none 0 0, .bool false, .int .i64 (0 : Int)] t) fun B w1 => stW w1 (⟨B, 0, none⟩ : Addr) (.int .i64 m.start) fun w2 => stW w2 ((⟨B, 0, none⟩ : Addr).add 1) (.slice m.A m.tk.length m.c) fun w3 =>
      stW w3 ((⟨B, 0, none⟩ : Addr).add 2) (.bool m.live) fun w4 => stW w4 ((⟨B, 0, none⟩ : Addr).add 3) (.int .i64 m.at_) fun w5 => K B w5 := by
  refine al_new fun w1 b e s1 hb hbl => hb_st0 hb (by decide) fun w2 hb2 k2 => hb_st (j := 1) hb2 (by simp) fun w3 hb3 k3 => hb_st (j := 2) hb3 (by simp) fun w4 hb4 k4 => hb_st (j := 3) hb4 (by simp) fun w5 hb5 k5 => h w5 b e hb5 ?_ ?_
  · exact hbl.trans ((((k2.trans k3).trans k4).trans k5).below (by omega) (fun k hk => by subst e; omega))
  · have := k2.size; have := k3.size; have := k4.size; have := k5.size; omega
theorem tx_c0 {w : World} {a : Addr} {ms : List TxM} (h : RowE txE 4 w (some a) ms) {i : Nat} (hi : i < ms.length) : w.cell? (a.add (i * 4)) = some (.int .i64 ms[i].start) := h.c0 Etx hi
theorem tx_c1 {w : World} {a : Addr} {ms : List TxM} (h : RowE txE 4 w (some a) ms) {i : Nat} (hi : i < ms.length) : w.cell? ((a.add (i * 4)).add 1) = some (.slice ms[i].A ms[i].tk.length ms[i].c) := h.cj hi (by decide)
theorem tx_c2 {w : World} {a : Addr} {ms : List TxM} (h : RowE txE 4 w (some a) ms) {i : Nat} (hi : i < ms.length) : w.cell? ((a.add (i * 4)).add 2) = some (.bool ms[i].live) := h.cj hi (by decide)
theorem tx_c3 {w : World} {a : Addr} {ms : List TxM} (h : RowE txE 4 w (some a) ms) {i : Nat} (hi : i < ms.length) : w.cell? ((a.add (i * 4)).add 3) = some (.int .i64 ms[i].at_) := h.cj hi (by decide)
theorem RowE.addr {α : Type} {enc : α → List Value} {k : Nat} {w : World} {A : Option Addr} {l : List α} (h : RowE enc k w A l) (hl : 0 < l.length) : ∃ a, A = some a := by
  obtain ⟨a, ha, _⟩ := h 0 hl
  exact ⟨a, ha⟩
/-- a place in a row -/
theorem i64p {n : Int} (h1 : 1 ≤ n) (h2 : n ≤ 9223372036854775807) : IntKind.i64.wrap (n - 1) = n - 1 := w64_in (by omega)
end Go.Dn
namespace Go.Proofs.Ytbfcjnbjhpfdfaa.Rd
open Go.Dn Go.RowKit
set_option linter.unusedVariables false
set_option maxRecDepth 100000
theorem RTrf : RecTy Try.prog 30 62 2 16 := ⟨by kernel_rfl, by kernel_rfl⟩
theorem RTtx : RecTy Try.prog 26 73 4 48 := ⟨by kernel_rfl, by kernel_rfl⟩
theorem RTin : RecTy Try.prog 35 3 1 8 := ⟨by kernel_rfl, by kernel_rfl⟩
/-! ### SameInts, CopyInts -/
theorem Same_l0 {A1 A2 : Option Addr} {l1 l2 : List Int} {c1 c2 : Nat} (hlen : l1.length = l2.length) (hmax : l1.length ≤ 17592186044416) {w0 : World} (r1 : RI w0 A1 l1) (r2 : RI w0 A2 l2) {K0 : World → Prop} {Kr : Bool → World → Prop}
    (h0 : l1 = l2 → ∀ w', Below w0.heap.size w0 w' → K0 w') (h1 : l1 ≠ l2 → ∀ w', Below w0.heap.size w0 w' → Kr false w') : ∀ (m i : Nat) (w : World), l1.length - i = m → i ≤ l1.length → l1.take i = l2.take i → Below w0.heap.size w0 w →
    f_ref01_SameInts.l0 (m + 1) A1 l1.length c1 A2 l2.length c2 (i : Int) w K0 Kr := by
  intro m
  induction m with
  | zero =>
    intro i w hm hi ht hb
    have : i = l1.length := by omega
    subst this
    unfold f_ref01_SameInts.l0
    refine sel_f (by simp) (h0 ?_ w hb)
    rw [List.take_length, hlen, List.take_length] at ht; exact ht
  | succ m ih =>
    intro i w hm hi ht hb
    have hlt : i < l1.length := by omega
    have hlt2 : i < l2.length := by omega
    have hbd := hb.drew
    obtain ⟨a1, rfl, q1⟩ := (r1.below hbd (Nat.le_refl _)) i hlt
    obtain ⟨a2, rfl, q2⟩ := (r2.below hbd (Nat.le_refl _)) i hlt2
    unfold f_ref01_SameInts.l0
    refine sel_t (by simpa using hlt) (drW_intro (optB_some rfl (req_intro (by simp; omega) (ldI_intro (x := l1[i]) (by rw [Int.toNat_natCast, Nat.mul_one]; exact q1) (optB_some rfl (req_intro (by simp; omega) (ldI_intro (x := l2[i]) (by rw [Int.toNat_natCast, Nat.mul_one]; exact q2) ?_)))))))
    by_cases e : l1[i] = l2[i]
    · refine sel_f (by simp [e]) ?_
      rw [w64_in (by omega), show (i : Int) + 1 = ((i + 1 : Nat) : Int) by omega]
      exact ih (i + 1) _ (by omega) (by omega) (by rw [List.take_succ_eq_append_getElem hlt, List.take_succ_eq_append_getElem hlt2, ht, e]) hbd
    · refine sel_t (by simp [e]) (h1 ?_ _ hbd)
      intro he; subst he; exact e rfl
theorem SameInts_ok {w : World} {A1 A2 : Option Addr} {l1 l2 : List Int} {n1 n2 c1 c2 : Nat} (r1 : RI w A1 l1) (e1 : n1 = l1.length) (r2 : RI w A2 l2) (e2 : n2 = l2.length) (hmax : l1.length ≤ 17592186044416) :
    Calls Try.prog 16 #[.slice A1 n1 c1, .slice A2 n2 c2] w fun e w' => e = .returned (.bool (decide (l1 = l2))) ∧ Below w.heap.size w w' := by
  subst e1; subst e2
  apply f_ref01_SameInts.ok
  unfold f_ref01_SameInts.wp
  by_cases hl : l1.length = l2.length
  · refine sel_f (by simp [hl]) ⟨_, Same_l0 hl hmax r1 r2 ?_ ?_ l1.length 0 w rfl (by omega) (by simp) (Below.refl _ _)⟩
    · intro e w' hb _; exact ⟨by simp [e], hb⟩
    · intro e w' hb _; exact ⟨by simp [e], hb⟩
  · refine sel_t (by simp only [bne_iff_ne, ne_eq]; omega) ⟨?_, Below.refl _ _⟩
    have : l1 ≠ l2 := fun e => hl (by rw [e])
    simp [this]
/-! ### the document's calls -/
variable {w : World} {G : Nat → Prop} {A : Option Addr} {c : Nat} {t : Tb}
theorem RNew_ok (w : World) (l : Int) : Calls Try.prog 10 #[.int .i64 l] w fun e w' => e = .returned (tbV none 0 0 (Tb.new l).last) ∧ Below w.heap.size w w' := by
  apply f_ref14_New.ok
  unfold f_ref14_New.wp
  refine al_new fun w1 b e s1 h1 g1 => ?_
  have fin : ∀ {x : Int}, x = (Tb.new l).last → stW w1 (⟨b, 0, none⟩ : Addr) (.slice none 0 0) fun w1 => stW w1 ((⟨b, 0, none⟩ : Addr).add 1) (.int .i64 x) fun w2 => ldS w2 (⟨b, 0, none⟩ : Addr) fun A' n' c' => ldI w2 ((⟨b, 0, none⟩ : Addr).add 1) .i64 fun x' =>
      (Ending.returned (.agg #[.slice A' n' c', .int .i64 x']) = .returned (tbV none 0 0 (Tb.new l).last) ∧ Below w.heap.size w w2) := by
    intro x hx
    refine out2 h1 rfl fun w2 k2 _ => ⟨by rw [hx]; rfl, g1.trans (k2.below (by omega) fun k hk e => by omega)⟩
  by_cases h : l < 0
  · refine sel_t (by simpa using h) (sel_f (by decide) (fin ?_))
    simp only [Tb.new, mxT]
    rw [if_pos (show 0 > l from h)]; rfl
  · refine sel_f (by simpa using h) ?_
    by_cases h2 : l > mxT
    · refine sel_t (by simp only [mxT] at h2; simpa using h2) (fin ?_)
      simp only [mxT] at h2
      simp only [Tb.new, mxT]
      rw [if_neg (show ¬ 0 > l from h), if_pos h2]
    · refine sel_f (by simp only [mxT] at h2; simpa using h2) (fin ?_)
      simp only [mxT] at h2
      simp only [Tb.new, mxT]
      rw [if_neg (show ¬ 0 > l from h), if_neg h2]
theorem get_ms {ms : List TxM} (hm : ms.map TxM.tx = t.txs) {n : Int} (h1 : 1 ≤ n) (h2 : n ≤ (ms.length : Int)) : ∃ (hi : (n - 1).toNat < ms.length), t.get n = if ms[(n - 1).toNat].live then some ms[(n - 1).toNat].tx else none := by
  have hi : (n - 1).toNat < ms.length := by omega
  refine ⟨hi, ?_⟩
  unfold Tb.get
  rw [if_pos h1, ← hm, List.getElem?_map, List.getElem?_eq_getElem hi]
  rfl
theorem get_out {ms : List TxM} (hm : ms.map TxM.tx = t.txs) {n : Int} (h : ¬ (1 ≤ n ∧ n ≤ (ms.length : Int))) : t.get n = none := by
  unfold Tb.get
  by_cases h1 : 1 ≤ n
  · rw [if_pos h1, ← hm, List.getElem?_eq_none (by rw [List.length_map]; omega)]
  · rw [if_neg h1]
theorem RIs_ok (h : RTb w G A t.txs) {n : Int} (hn : W64 n) : Calls Try.prog 30 #[tbV A t.txs.length c t.last, .int .i64 n] w fun e w' => e = .returned (.bool (t.get n).isSome) ∧ Below w.heap.size w w' := by
  obtain ⟨ms, hm, h⟩ := h
  have hlen : t.txs.length = ms.length := by rw [← hm, List.length_map]
  rw [hlen]
  apply f_ref14_Is.ok
  refine al_new fun w1 b e s1 h1 g1 => ?_
  have r1 := h.below g1
  by_cases h2 : n ≥ 1
  · refine sel_t (by simpa using h2) (hb_ldS0 h1 rfl ?_)
    by_cases h3 : n ≤ (ms.length : Int)
    · obtain ⟨hi, hg⟩ := get_ms hm h2 h3
      obtain ⟨a, rfl⟩ := r1.row.addr (by omega)
      have he : IntKind.i64.wrap (n - 1) = n - 1 := i64p h2 hn.2
      refine sel_t (by simpa using h3) (hb_ldS0 h1 rfl (optB_some rfl (req_intro (by rw [he]; simp; omega) ?_)))
      rw [he]
      refine ⟨_, tx_c2 r1.row hi, ?_, g1⟩
      rw [hg]
      cases ms[(n - 1).toNat].live <;> rfl
    · refine sel_f (by simpa using h3) ⟨?_, g1⟩
      rw [get_out hm (fun h => h3 h.2)]; rfl
  · refine sel_f (by simpa using h2) ⟨?_, g1⟩
    rw [get_out hm (fun h => h2 h.1)]; rfl
theorem RLive_loop {G : Nat → Prop} {A : Option Addr} {c : Nat} {b : Nat} {cs : Array Value} {tb : TypeId} {ms : List TxM} {w0 : World} {K0 : Option Addr → Nat → Nat → World → Prop} (hcs : cs[0]? = some (.slice A ms.length c)) (hlen : ms.length ≤ 1048576) :
    ∀ (N i : Nat) (w : World) (A1 : Option Addr) (c1 : Nat) (out : List Int), ms.length - i = N → i ≤ ms.length → HB w b cs tb → RT w G A ms → OwnE inE 1 w w0.heap.size 3 A1 c1 out → w0.heap.size ≤ w.heap.size → (∀ a, A1 = some a → a.block ≠ b ∧ ¬ G a.block) → out.length ≤ i →
      (∀ A' c' w', OwnE inE 1 w' w0.heap.size 3 A' c' (out ++ liveF i ((ms.drop i).map TxM.tx)) → Keeps (Ob A1) w w' → K0 A' (out ++ liveF i ((ms.drop i).map TxM.tx)).length c' w') →
      f_ref14_Live.l0 (N + 1) ⟨b, 0, none⟩ A1 out.length c1 (i : Int) w K0
  | N, i, w, A1, c1, out, hN, hi, hb, hr, ho, hw, hd, hol, hK => by
    unfold f_ref14_Live.l0
    refine hb_ldS0 hb hcs ?_
    by_cases hlt : i < ms.length
    · obtain ⟨a, rfl⟩ := hr.row.addr (by omega)
      cases N with
      | zero => omega
      | succ N =>
        refine sel_t (by simpa using hlt) (hb_ldS0 hb hcs (optB_some rfl (req_intro (by simp; omega) ?_)))
        rw [Int.toNat_natCast]
        refine ⟨_, tx_c2 hr.row hlt, ?_⟩
        have hdrop : ms.drop i = ms[i] :: ms.drop (i + 1) := List.drop_eq_getElem_cons hlt
        by_cases hl : ms[i].live = true
        · refine sel_t hl ?_
          rw [i64n (by omega)]
          refine put_e RTin Ein (by decide) ho rfl ((i + 1 : Nat) : Int) rfl hw (by omega) fun A2 c2 w2 o2 k2 f2 => ?_
          have hb2 := hb.keeps k2 fun ⟨a, ha, e⟩ => (hd a ha).1 e
          have hr2 := hr.keeps k2 fun k hk ⟨a, ha, e⟩ => (hd a ha).2 (e ▸ hk)
          refine RLive_loop hcs hlen N (i + 1) w2 (some A2) c2 _ (by omega) (by omega) hb2 hr2 o2 (Nat.le_trans hw k2.size) (fun a ha => ?_) (by simp; omega) fun A' c' w' o' k' => ?_
          · injection ha with ha; subst ha
            rcases f2 with f2 | f2
            · exact hd _ f2
            · exact ⟨by have := hb.lt; omega, fun hg => by have := hr.lt _ hg; omega⟩
          · have e : out ++ [((i + 1 : Nat) : Int)] ++ liveF (i + 1) ((ms.drop (i + 1)).map TxM.tx) = out ++ liveF i ((ms.drop i).map TxM.tx) := by
              rw [hdrop, List.map_cons]
              conv => rhs; unfold liveF
              rw [if_pos (show ms[i].tx.live = true from hl), List.append_assoc]
              simp
            rw [e] at o' ⊢
            refine hK A' c' w' o' (k2.trans' k' fun k hk ⟨a, ha, e⟩ => ?_)
            injection ha with ha; subst ha
            rcases f2 with f2 | f2
            · exact ⟨_, f2, e⟩
            · omega
        · refine sel_f (by simpa using hl) ?_
          rw [i64n (by omega)]
          refine RLive_loop hcs hlen N (i + 1) w A1 c1 out (by omega) (by omega) hb hr ho hw hd (by omega) fun A' c' w' o' k' => ?_
          have e : liveF (i + 1) ((ms.drop (i + 1)).map TxM.tx) = liveF i ((ms.drop i).map TxM.tx) := by
            rw [hdrop, List.map_cons]
            conv => rhs; unfold liveF
            rw [if_neg (show ¬ ms[i].tx.live = true from hl)]
          rw [e] at o' ⊢
          exact hK A' c' w' o' k'
    · refine sel_f (by simpa using hlt) ?_
      have e : ms.drop i = [] := List.drop_eq_nil_of_le (by omega)
      have := hK A1 c1 w (by rw [e]; simpa [liveF] using ho) (.refl _ _)
      rw [e] at this
      simpa [liveF] using this
theorem RLive_ok (h : RTb w G A t.txs) (hlen : t.txs.length ≤ 1048576) : Calls Try.prog 17 #[tbV A t.txs.length c t.last] w fun e w' => ∃ A' c', e = .returned (.slice A' t.lives.length c') ∧ OwnI w' w.heap.size 3 A' c' t.lives ∧ Below w.heap.size w w' := by
  obtain ⟨ms, hm, h⟩ := h
  have hl : t.txs.length = ms.length := by rw [← hm, List.length_map]
  rw [hl] at hlen ⊢
  apply f_ref14_Live.ok
  refine al_new fun w1 b e s1 h1 g1 => alW_intro ?_
  have r1 := h.below g1
  have o2 := OwnE.empty (enc := inE) (k := 1) (w := w1) (B := w.heap.size) (e := 3) (by omega)
  have g2 : Below w1.heap.size w1 (w1.alloc (.cells #[] 3)) := (Below.refl _ _).alloc (Nat.le_refl _) _
  have s2 : (w1.alloc (.cells #[] 3)).heap.size = w1.heap.size + 1 := by simp
  generalize w1.alloc (.cells #[] 3) = w2 at o2 g2 s2
  refine ⟨_, RLive_loop (w0 := w) (ms := ms) rfl hlen ms.length 0 w2 _ 0 [] (by omega) (by omega) (h1.below g2) (r1.below g2) o2 (by omega) (fun a ha => ?_) (by simp) fun A' c' w' o' k' => ?_⟩
  · injection ha with ha; subst ha
    exact ⟨by simp only; omega, fun hg => by have := h.lt _ hg; simp only at this; omega⟩
  · intro _
    have e2 : [] ++ liveF 0 ((ms.drop 0).map TxM.tx) = t.lives := by unfold Tb.lives; rw [← hm]; rfl
    rw [e2] at o' ⊢
    refine ⟨A', c', rfl, o'.ints, (g1.trans (g2.mono (by omega))).trans (k'.below (by omega) fun k hk ⟨a, ha, e⟩ => ?_)⟩
    injection ha with ha; subst ha
    simp only at e; omega
theorem RHor_loop {G : Nat → Prop} {A : Option Addr} {c : Nat} {b : Nat} {cs : Array Value} {tb : TypeId} {ms : List TxM} {w : World} {K0 : Int → World → Prop} (hcs : cs[0]? = some (.slice A ms.length c)) (hlen : ms.length ≤ 1048576) (hb : HB w b cs tb) (hr : RT w G A ms) :
    ∀ (N i : Nat) (h : Int), ms.length - i = N → i ≤ ms.length → K0 (horF h ((ms.drop i).map TxM.tx)) w → f_ref14_Horizon.l0 (N + 1) ⟨b, 0, none⟩ h (i : Int) w K0
  | N, i, h, hN, hi, hK => by
    unfold f_ref14_Horizon.l0
    refine hb_ldS0 hb hcs ?_
    by_cases hlt : i < ms.length
    · obtain ⟨a, rfl⟩ := hr.row.addr (by omega)
      cases N with
      | zero => omega
      | succ N =>
        have hdrop : ms.drop i = ms[i] :: ms.drop (i + 1) := List.drop_eq_getElem_cons hlt
        rw [hdrop, List.map_cons] at hK
        unfold horF at hK
        refine sel_t (by simpa using hlt) (hb_ldS0 hb hcs (optB_some rfl (req_intro (by simp; omega) ?_)))
        rw [Int.toNat_natCast]
        refine ⟨_, tx_c2 hr.row hlt, ?_⟩
        by_cases hl : ms[i].live = true
        · refine sel_t hl (hb_ldS0 hb hcs (optB_some rfl (req_intro (by simp; omega) (ldI_intro (tx_c0 hr.row hlt) ?_))))
          by_cases hs : ms[i].start < h
          · refine sel_t (by simpa using hs) (hb_ldS0 hb hcs (optB_some rfl (req_intro (by simp; omega) (ldI_intro (tx_c0 hr.row hlt) ?_))))
            rw [i64n (by omega)]
            rw [if_pos ⟨hl, hs⟩] at hK
            exact RHor_loop hcs hlen hb hr N (i + 1) _ (by omega) (by omega) hK
          · refine sel_f (by simpa using hs) ?_
            rw [i64n (by omega)]
            rw [if_neg (fun h2 => hs h2.2)] at hK
            exact RHor_loop hcs hlen hb hr N (i + 1) _ (by omega) (by omega) hK
        · refine sel_f (by simpa using hl) ?_
          rw [i64n (by omega)]
          rw [if_neg (fun h2 => hl h2.1)] at hK
          exact RHor_loop hcs hlen hb hr N (i + 1) _ (by omega) (by omega) hK
    · refine sel_f (by simpa using hlt) ?_
      have e : ms.drop i = [] := List.drop_eq_nil_of_le (by omega)
      rw [e] at hK
      exact hK
theorem RHor_ok (h : RTb w G A t.txs) (hlen : t.txs.length ≤ 1048576) : Calls Try.prog 15 #[tbV A t.txs.length c t.last] w fun e w' => e = .returned (.int .i64 t.hor) ∧ Below w.heap.size w w' := by
  obtain ⟨ms, hm, h⟩ := h
  have hl : t.txs.length = ms.length := by rw [← hm, List.length_map]
  rw [hl] at hlen ⊢
  apply f_ref14_Horizon.ok
  refine al_new fun w1 b e s1 h1 g1 => hb_ldI (j := 1) h1 rfl ?_
  refine ⟨_, RHor_loop (ms := ms) rfl hlen h1 (h.below g1) ms.length 0 t.last (by omega) (by omega) fun _ => ⟨?_, g1⟩⟩
  rw [List.drop_zero, hm]; rfl
end Go.Proofs.Ytbfcjnbjhpfdfaa.Rd
