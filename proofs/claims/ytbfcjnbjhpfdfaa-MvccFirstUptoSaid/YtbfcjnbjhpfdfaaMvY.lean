/- MvccFirst: an append behind one of the touched rows; what is asked behind each call. Conditions: none. -/
import Derived.Test.YtbfcjnbjhpfdfaaMvX
namespace Go.Dn
open Go.RowKit
set_option linter.unusedVariables false
/-- a row appended to a row of one's own: it stays in its block, or lies in a new one -/
theorem app_row2 {α : Type} {P : Program} {t te : TypeId} {k by_ : Nat} (T : RecTy P t te k by_) {enc : α → List Value} (E : Enc enc k) (hby : 0 < by_) {w : World} {B : Nat} {A : Option Addr} {n c : Nat} {l l2 : List α} (ho : OwnE enc k w B te A c l) (hn : n = l.length) {A2 : Option Addr} {m c2 : Nat} (hr : RowE enc k w A2 l2) (hm : m = l2.length) (h0 : A2 = none → c2 = 0 ∧ m = 0)
    (hB : B ≤ w.heap.size) (hlen : (l.length + l2.length) * by_ ≤ 140737488355328) {ty : TypeId} {K : Value → World → Prop}
    (hK : ∀ A' c' w', OwnE enc k w' B te A' c' (l ++ l2) → Keeps (Ob A) w w' → (∀ a, A' = some a → A = some a ∨ w.heap.size ≤ a.block) → K (.slice A' (l ++ l2).length c') w') :
    Runs P (Builtin.append_ #[t, t] ty #[.slice A n c, .slice A2 m c2]) w K := by
  subst hn; subst hm
  obtain ⟨i, z, hi, hz, hz1, hs, hbyt⟩ := T.info
  have hlen2 : l.length + l2.length ≤ 140737488355328 := Nat.le_trans (Nat.le_mul_of_pos_right _ hby) hlen
  cases A2 with
  | none =>
    obtain ⟨rfl, hl2⟩ := h0 rfl
    have hl2 := List.length_eq_zero_iff.1 hl2
    subst hl2
    refine runs_of (run_append_owned_none w B t ty te i k T.und hi _ _ _ ho) ?_
    have := hK A c w (by rw [List.append_nil]; exact ho) (.refl _ _) fun a ha => .inl ha
    rw [List.append_nil] at this
    exact this
  | some a =>
    have hnews : ∀ j u, (encs enc l2)[j]? = some u → w.cell? (a.add j) = some u := fun j u hj => by
      have hjl := (List.getElem?_eq_some_iff.1 hj).1
      rw [encs_len E] at hjl
      have hi2 : j / k < l2.length := Nat.div_lt_of_lt_mul (by rw [Nat.mul_comm]; exact hjl)
      have hj2 : j % k < k := Nat.mod_lt _ E.pos
      have := hr.cj hi2 hj2
      rw [add_add, ← encs_get E hi2 hj2, Nat.mul_comm, Nat.div_add_mod] at this
      rw [this]; exact hj
    have hone : ∀ u ∈ encs enc l2, u.oneCell' = true := fun u hu => by
      unfold encs at hu
      obtain ⟨x, _, hx⟩ := List.mem_flatMap.1 hu
      exact E.one x u hx
    -- where it lies: a row of one's own with a base behind all is new
    have go : ∀ B', B' ≤ w.heap.size → OwnE enc k w B' te A c l → ∃ v' w', (Builtin.append_ #[t, t] ty #[.slice A l.length c, .slice (some a) l2.length c2]).run P w = .ok v' w' ∧ w'.ownsRow B' te k v' (l.length + l2.length) (encs enc l ++ encs enc l2) ∧ w.grownBy w' (Value.slice A l.length c).ownBlock := fun B' hB' ho' => by
      obtain ⟨v', w', h1, h2, h3, _⟩ := run_append_own (P := P) w B' t ty te i z k by_ T.und hi hz hs hbyt hz1 E.pos (.slice A l.length c) l.length (encs enc l) ho' a l2.length c2 (encs enc l2) (encs_len E l2) hnews hone (by unfold maxLen; omega) hlen hB'
      exact ⟨v', w', h1, h2, h3⟩
    obtain ⟨v', w', hrun, ho', hg⟩ := go B hB ho
    have hk : Keeps (Ob A) w w' := ⟨hg.os, hg.tape, hg.output, hg.size, fun k hk hn => hg.block k hk fun h => hn (ob_own h)⟩
    have hloc : ∀ a', (∃ n' c', v' = .slice (some a') n' c') → A = some a' ∨ w.heap.size ≤ a'.block := by
      rintro a' ⟨n', c', rfl⟩
      rcases ho.2 with ⟨h1, h2⟩ | ⟨g, cap, cur, hv, hbg, hgg, hnc, hcm, hcs', htake⟩
      · injection h1 with h1 _ h3; subst h1; subst h3
        have hl0 : l = [] := List.length_eq_zero_iff.mp h2
        subst hl0
        obtain ⟨v2, w2, hrun2, ho2, _⟩ := go w.heap.size (Nat.le_refl _) (OwnE.none _ _ _ _ _)
        rw [hrun2] at hrun
        injection hrun with e1 e2
        subst e1
        rcases ho2.2 with ⟨h1, _⟩ | ⟨g, cap, cur, hv, hbg, _⟩
        · cases h1
        · injection hv with hv; injection hv with hv
          rw [hv]; exact .inr hbg
      · injection hv with hA hn hc
        subst hA; subst hc
        by_cases hroom : l.length + l2.length ≤ c
        · obtain ⟨w2, hrun2, _⟩ := run_append_fits (P := P) w B t ty te i k T.und hi hs g l.length c (encs enc l) ho a l2.length c2 (encs enc l2) (encs_len E l2) hnews hone hroom
          rw [hrun2] at hrun
          injection hrun with hv _
          injection hv with hv; exact .inl hv
        · have hr2 := run_append_grow (P := P) w t ty te i z T.und hi hz ⟨g, 0, none⟩ l.length c (encs enc l) (by rw [hs, encs_len E]) (ho.cells (g := g) rfl) a l2.length c2 (encs enc l2) (by rw [hs, encs_len E]) hnews (by omega) (by omega)
            (by rw [hbyt]; exact growslice_fits (by omega) hlen)
          rw [hr2] at hrun
          injection hrun with hv hw
          injection hv with hv
          injection hv with hv
          rw [← hv]; exact .inr (Nat.le_refl _)
    rw [← encs_app] at ho'
    obtain ⟨A', c', rfl⟩ : ∃ A' c', v' = .slice A' (l.length + l2.length) c' := by
      obtain ⟨_, h⟩ := ho'
      rcases h with ⟨h1, h2⟩ | ⟨g, cap, cur, hv, _⟩
      · exact ⟨none, 0, by rw [h1, h2]⟩
      · exact ⟨_, _, hv⟩
    have hlen3 : (l ++ l2).length = l.length + l2.length := by simp
    refine runs_of hrun ?_
    have := hK A' c' w' (by unfold OwnE; rw [hlen3]; exact ho') hk fun a' ha' => hloc a' ⟨_, _, by rw [ha']⟩
    rw [hlen3] at this; exact this
theorem set_get {α : Type} {l : List α} {n j : Nat} {x y : α} (h : (l.set n y)[j]? = some x) : (j = n ∧ x = y) ∨ (j ≠ n ∧ l[j]? = some x) := by
  by_cases e : j = n
  · subst e
    have hlt := (List.getElem?_eq_some_iff.1 h).1
    rw [List.length_set] at hlt
    rw [List.getElem?_set_self hlt] at h
    injection h with h; exact .inl ⟨rfl, h.symm⟩
  · rw [List.getElem?_set_ne (fun h => e h.symm)] at h
    exact .inr ⟨e, h⟩
theorem OwnE.cap {α : Type} {enc : α → List Value} {k : Nat} {w : World} {B e : Nat} {A : Option Addr} {c : Nat} {l : List α} (h : OwnE enc k w B e A c l) : l.length ≤ c := by
  rcases h.2 with ⟨h1, h2⟩ | ⟨g, cap, cur, hv, hbg, hgg, hnc, _⟩
  · omega
  · injection hv with _ _ hc; omega
theorem RowE.slA {α : Type} {enc : α → List Value} {k : Nat} {w : World} {A : Option Addr} {l : List α} {c : Nat} (h : RowE enc k w A l) (hc : l.length ≤ c) (i : Nat) : RowE enc k w (Go.Dn.slA A i c k) (l.drop i) := fun j hj => by
  rw [List.length_drop] at hj
  obtain ⟨a, rfl, h1⟩ := h (i + j) (by omega)
  unfold Go.Dn.slA
  rw [if_neg (by omega)]
  refine ⟨_, rfl, fun q hq => ?_⟩
  rw [List.getElem_drop, ← h1 q hq, add_add a, ← Nat.add_mul]
end Go.Dn
namespace Go.Proofs.Ytbfcjnbjhpfdfaa.Rd
open Go.Dn Go.RowKit
set_option linter.unusedVariables false
set_option maxRecDepth 100000
variable {w0 w : World} {F : Nat → Prop} {a : Nat} {t : Tb} {ms : List RowM} {A6 A7 : Option Addr} {c6 c7 : Nat} {D : List SpM}
/-- one of the touched rows has grown: its element turned -/
theorem FiM.set6 (h : FiM w0 w F a t ms A6 c6 D A7 c7) {n : Nat} {m : RowM} (hm : ms[n]? = some m) {w1 : World} {A' : Option Addr} {c' : Nat} {l2 : List Rf} (o1 : OwnE rfE 2 w1 w0.heap.size 62 A' c' (m.tk ++ l2)) (k1 : Keeps (Ob m.A) w w1) (f1 : ∀ a, A' = some a → m.A = some a ∨ w.heap.size ≤ a.block) {K : World → Prop}
    (hK : ∀ w2, FiM w0 w2 F a t (ms.set n ⟨A', c', m.tk ++ l2⟩) A6 c6 D A7 c7 → K w2) : ∃ g, A6 = some ⟨g, 0, none⟩ ∧ stW w1 ((⟨g, 0, none⟩ : Addr).add (n * 1)) (.slice A' (m.tk ++ l2).length c') K := by
  have hlt := (List.getElem?_eq_some_iff.1 hm).1
  have hmem := List.mem_of_getElem? hm
  have nmm := h.nm m hmem
  have ge : ∀ j, Ob m.A j → w0.heap.size ≤ j := fun j ⟨g, hg, e⟩ => by have := ((h.r m hmem).block g hg).1; omega
  have T1 : LT w0 w1 F a t := LTb.keeps h.lt k1 fun j hj => ⟨fun hF => by
    obtain ⟨g, hg, e⟩ := hj
    exact (nmm g hg).1 (e ▸ hF), ge j hj⟩
  have s1 := h.s.keeps k1 fun q hq ⟨g, hg, e⟩ => (nmm g hg).2.1 q hq e.symm
  have d1 := h.o.keeps k1 fun q hq ⟨g, hg, e⟩ => (nmm g hg).2.2 q hq e.symm
  -- the grown row keeps off all else
  have off : ∀ g, A' = some g → ¬ F g.block ∧ (∀ q, A6 = some q → q.block ≠ g.block) ∧ (∀ q, A7 = some q → q.block ≠ g.block) ∧ ∀ (j : Nat) (m' : RowM), ms[j]? = some m' → j ≠ n → ∀ g', m'.A = some g' → g'.block ≠ g.block := fun g hg => by
    rcases f1 g hg with e | e
    · exact ⟨(nmm g e).1, (nmm g e).2.1, (nmm g e).2.2, fun j m' hm' hne g' hg' => h.ap j n m' m hm' hm hne g' g hg' e⟩
    · exact ⟨fun hF => by have := LTb.lt h.lt hF; omega, fun q hq => by have := (h.s.block q hq).2; omega, fun q hq => by have := (h.o.block q hq).2; omega, fun j m' hm' hne g' hg' => by have := ((h.r m' (List.mem_of_getElem? hm')).block g' hg').2; omega⟩
  refine s1.set1 Erm (i := n) hlt (x := ⟨A', c', m.tk ++ l2⟩) rfl fun w2 s2 k2 => hK w2 ?_
  refine ⟨LTb.keeps T1 k2 fun j ⟨g, hg, e⟩ => ⟨fun hF => h.n6 g hg (e ▸ hF), by have := (h.s.block g hg).1; omega⟩, s2, d1.keeps k2 fun q hq ⟨g, hg, e⟩ => h.n67 g q hg hq e, fun m' hm' => ?_, fun i j m1 m2 h1 h2 hne g1 g2 e1 e2 => ?_, h.n6, h.n7, h.n67, fun m' hm' g hg => ?_⟩
  · obtain ⟨j, hj⟩ := List.mem_iff_getElem?.1 hm'
    rcases set_get hj with ⟨_, rfl⟩ | ⟨hne, hj⟩
    · exact o1.keeps k2 fun q hq ⟨g, hg, e⟩ => (off q hq).2.1 g hg e
    · have hm2 := List.mem_of_getElem? hj
      exact ((h.r m' hm2).keeps k1 fun q hq ⟨g, hg, e⟩ => h.ap j n m' m hj hm hne q g hq hg e.symm).keeps k2 fun q hq ⟨g, hg, e⟩ => (h.nm m' hm2 q hq).2.1 g hg e
  · rcases set_get h1 with ⟨r1, rfl⟩ | ⟨r1, h1⟩ <;> rcases set_get h2 with ⟨r2, rfl⟩ | ⟨r2, h2⟩
    · omega
    · exact ((off g1 e1).2.2.2 j m2 h2 r2 g2 e2).symm
    · exact (off g2 e2).2.2.2 i m1 h1 r1 g1 e1
    · exact h.ap i j m1 m2 h1 h2 hne g1 g2 e1 e2
  · obtain ⟨j, hj⟩ := List.mem_iff_getElem?.1 hm'
    rcases set_get hj with ⟨_, rfl⟩ | ⟨hne, hj⟩
    · exact ⟨(off g hg).1, (off g hg).2.1, (off g hg).2.2.1⟩
    · exact h.nm m' (List.mem_of_getElem? hj) g hg
/-! ### what is asked behind each call -/
theorem fi_l2 (T : LT w0 w F a t) {A : Option Addr} {c : Nat} (hr : RI w A t.lives) {K3 : World → Prop} {Kr : Bool → World → Prop} (hK : K3 w) : ∀ (N i : Nat), t.lives.length - i = N → i ≤ t.lives.length →
    f_law14_MvccFirst.l2 (N + 1) (some ⟨a, 0, none⟩) t.hor A t.lives.length c (t.lives.length : Int) (i : Int) w K3 Kr
  | N, i, hN, hi => by
    unfold f_law14_MvccFirst.l2
    have h8 := T.tb.ok.le8
    by_cases hlt : i < t.lives.length
    · cases N with
      | zero => omega
      | succ N =>
        obtain ⟨x, hx⟩ := Tb.mem_lives.1 (List.getElem_mem hlt)
        obtain ⟨g, rfl, hc⟩ := hr i hlt
        have hn : W64 t.lives[i] := by
          obtain ⟨bl, bw, L, W, hm, _⟩ := T.tb
          obtain ⟨v, hv, e⟩ := hm.all _ x hx
          exact e ▸ hm.lv.ok (v.n, v.p) (List.mem_map.2 ⟨v, hv, rfl⟩)
        have hst : t.startOf t.lives[i] = (x.start, 0) := by unfold Tb.startOf; rw [hx]
        have hle := t.hor_is.all _ x hx
        refine sel_t (by simpa using hlt) (optB_some rfl (req_intro (by simp; omega) (ldI_intro (by rw [Int.toNat_natCast, Nat.mul_one]; exact hc) ((T.start hn).mono fun e w2 he => ?_))))
        obtain ⟨rfl, hw⟩ := he
        subst w2
        rw [hst]
        refine ⟨_, _, rfl, sel_f rfl (sel_f (by simpa using hle) ?_)⟩
        rw [i64n (by omega)]
        exact fi_l2 T hr hK N (i + 1) (by omega) (by omega)
    · exact sel_f (by simpa using hlt) hK
theorem fi_j1 (h : FiM w0 w F a t ms A6 c6 D A7 c7) {hz : Int} (hh : hz ≤ t.hor) {Kn : Int → World → Prop} {Kr : Bool → World → Prop} (hK : ∀ w', FiM w0 w' F a t ms A6 c6 D A7 c7 → Kn t.hor w') : f_law14_MvccFirst.j1 (some ⟨a, 0, none⟩) hz w Kn Kr := by
  unfold f_law14_MvccFirst.j1
  refine (LT.hor h.lt).mono fun e w1 he => ?_
  obtain ⟨rfl, T1, g1⟩ := he
  have h1 := h.below g1
  refine ⟨_, rfl, sel_f (by simpa using hh) ((LT.hor h1.lt).mono fun e w2 he => ?_)⟩
  obtain ⟨rfl, T2, g2⟩ := he
  have h2 := h1.below g2
  refine ⟨_, rfl, (LT.last h2.lt).mono fun e w3 he => ?_⟩
  obtain ⟨rfl, hw⟩ := he
  subst w3
  have hl := t.hor_is.le
  refine ⟨_, rfl, sel_f (by simpa using hl) ((LT.hor h2.lt).mono fun e w4 he => ?_)⟩
  obtain ⟨rfl, T4, g4⟩ := he
  have h4 := h2.below g4
  refine ⟨_, rfl, (LT.live h4.lt).mono fun e w5 he => ?_⟩
  obtain ⟨A5, c5, rfl, o5, T5, g5⟩ := he
  have h5 := h4.below g5
  exact ⟨A5, _, c5, rfl, _, fi_l2 h5.lt o5.reads (fun _ => hK w5 h5) t.lives.length 0 (by omega) (by omega)⟩
end Go.Proofs.Ytbfcjnbjhpfdfaa.Rd
