/- page: items put in, replaced, taken out. Conditions: none. -/
import Derived.Test.YtifambgaekjilaaDoorPgC
namespace Go.Proofs.YtifambgaekjilaaDoor.Rd
open Go.Dn Go.RowKit
set_option linter.unusedVariables false
set_option linter.unusedSimpArgs false
set_option maxRecDepth 100000
def insL (p : Pg) (i : Int) (x : List UInt8) : Pg × Int :=
  if i < 0 ∨ (p.items.length : Int) < i then (p, 82) else if 200 < x.length then (p, 4) else if roomL p < x.length then (p, 81) else ({ p with items := p.items.take i.toNat ++ x :: p.items.drop i.toNat }, 0)
def repL (p : Pg) (i : Int) (x : List UInt8) : Pg × Int :=
  if i < 0 ∨ (p.items.length : Int) ≤ i then (p, 82) else if 200 < x.length then (p, 4) else if freeL p + ((p.items.getD i.toNat []).length : Int) < x.length then (p, 81) else ({ p with items := p.items.set i.toNat x }, 0)
def remL (p : Pg) (i : Int) : Pg × Int :=
  if i < 0 ∨ (p.items.length : Int) ≤ i then (p, 82) else ({ p with items := p.items.take i.toNat ++ p.items.drop (i.toNat + 1) }, 0)
theorem lensL_app (a b : List (List UInt8)) : lensL (a ++ b) = lensL a + lensL b := by unfold lensL; rw [List.map_append, List.sum_append]
theorem lensL_cons (x : List UInt8) (b : List (List UInt8)) : lensL (x :: b) = x.length + lensL b := rfl
theorem lensL_split (its : List (List UInt8)) (i : Nat) : lensL its = lensL (its.take i) + lensL (its.drop i) := by
  rw [← lensL_app, List.take_append_drop]
theorem insL_ok {p : Pg} (h : PgOk p) (i : Int) (x : List UInt8) : PgOk (insL p i x).1 := by
  unfold insL
  split; · exact h
  split; · exact h
  split; · exact h
  rename_i h1 h2 h3
  have hn := h.n
  have hu := h.u
  have hs := lensL_split p.items i.toNat
  have hr : (x.length : Int) ≤ roomL p := by omega
  unfold roomL freeL at hr
  have hl : (p.items.take i.toNat ++ x :: p.items.drop i.toNat).length = p.items.length + 1 := by rw [List.length_append, List.length_take, List.length_cons, List.length_drop]; omega
  have hL : lensL (p.items.take i.toNat ++ x :: p.items.drop i.toNat) = lensL p.items + x.length := by rw [lensL_app, lensL_cons]; omega
  refine ⟨?_, fun y hy => ?_, ?_, h.l, h.e⟩
  · show (p.items.take i.toNat ++ x :: p.items.drop i.toNat).length ≤ 100
    rw [hl]
    split at hr <;> omega
  · rcases List.mem_append.1 hy with hy | hy
    · exact h.x y (List.mem_of_mem_take hy)
    · rcases List.mem_cons.1 hy with rfl | hy
      · omega
      · exact h.x y (List.mem_of_mem_drop hy)
  · show 18 + 2 * (p.items.take i.toNat ++ x :: p.items.drop i.toNat).length + lensL (p.items.take i.toNat ++ x :: p.items.drop i.toNat) ≤ 512
    rw [hl, hL]
    split at hr
    · omega
    · split at hr
      · omega
      · split at hr <;> omega
theorem remL_ok {p : Pg} (h : PgOk p) (i : Int) : PgOk (remL p i).1 := by
  unfold remL
  split; · exact h
  rename_i h1
  have hn := h.n
  have hu := h.u
  have hlt : i.toNat < p.items.length := by omega
  have hs := lensL_split p.items i.toNat
  have hd : p.items.drop i.toNat = p.items[i.toNat] :: p.items.drop (i.toNat + 1) := List.drop_eq_getElem_cons hlt
  rw [hd, lensL_cons] at hs
  have hl : (p.items.take i.toNat ++ p.items.drop (i.toNat + 1)).length = p.items.length - 1 := by rw [List.length_append, List.length_take, List.length_drop]; omega
  refine ⟨?_, fun y hy => ?_, ?_, h.l, h.e⟩
  · show (p.items.take i.toNat ++ p.items.drop (i.toNat + 1)).length ≤ 100
    omega
  · rcases List.mem_append.1 hy with hy | hy
    · exact h.x y (List.mem_of_mem_take hy)
    · exact h.x y (List.mem_of_mem_drop hy)
  · show 18 + 2 * (p.items.take i.toNat ++ p.items.drop (i.toNat + 1)).length + lensL (p.items.take i.toNat ++ p.items.drop (i.toNat + 1)) ≤ 512
    rw [hl, lensL_app]; omega
theorem repL_ok {p : Pg} (h : PgOk p) (i : Int) (x : List UInt8) : PgOk (repL p i x).1 := by
  unfold repL
  split; · exact h
  split; · exact h
  split; · exact h
  rename_i h1 h2 h3
  have hn := h.n
  have hu := h.u
  have hlt : i.toNat < p.items.length := by omega
  have hs := lensL_split p.items i.toNat
  have hd : p.items.drop i.toNat = p.items[i.toNat] :: p.items.drop (i.toNat + 1) := List.drop_eq_getElem_cons hlt
  rw [hd, lensL_cons] at hs
  have hg : p.items.getD i.toNat [] = p.items[i.toNat] := by rw [List.getD_eq_getElem?_getD, List.getElem?_eq_getElem hlt, Option.getD_some]
  rw [hg] at h3
  unfold freeL at h3
  have hset : p.items.set i.toNat x = p.items.take i.toNat ++ x :: p.items.drop (i.toNat + 1) := List.set_eq_take_append_cons_drop ▸ by rw [if_pos hlt]
  refine ⟨?_, fun y hy => ?_, ?_, h.l, h.e⟩
  · show (p.items.set i.toNat x).length ≤ 100
    rw [List.length_set]; exact hn
  · rcases List.mem_or_eq_of_mem_set hy with hy | rfl
    · exact h.x y hy
    · omega
  · show 18 + 2 * (p.items.set i.toNat x).length + lensL (p.items.set i.toNat x) ≤ 512
    rw [List.length_set, hset, lensL_app, lensL_cons]; omega
section
variable {w w' : World} {N N' S X X' : Nat → Prop} {B B1 : Nat} {ms : List SM} {xs : List (List UInt8)} {ρ : RPg} {p : Pg}
theorem ItsM.ins {x : List UInt8} {m : SM} {i : Nat} (h : ItsM w N ms xs) (hm : ItM w N m x) (hi : i ≤ ms.length) : ItsM w N (ms.take i ++ m :: ms.drop i) (xs.take i ++ x :: xs.drop i) := by
  have e := h.1
  refine ⟨by simp [e], fun j h1 h2 => ?_⟩
  by_cases c : j < i
  · have a1 : (ms.take i ++ m :: ms.drop i)[j] = ms[j]'(by omega) := by rw [List.getElem_append_left (by rw [List.length_take]; omega), List.getElem_take]
    have a2 : (xs.take i ++ x :: xs.drop i)[j] = xs[j]'(by omega) := by rw [List.getElem_append_left (by rw [List.length_take]; omega), List.getElem_take]
    rw [a1, a2]; exact h.2 j _ _
  · rw [List.getElem_append_right (by rw [List.length_take]; omega), List.getElem_append_right (by rw [List.length_take]; omega)]
    simp only [List.length_take, ← e, Nat.min_eq_left hi]
    by_cases c2 : j = i
    · subst c2; simp only [Nat.sub_self, List.getElem_cons_zero]; exact hm
    · obtain ⟨k, hk⟩ : ∃ k, j - i = k + 1 := ⟨j - i - 1, by omega⟩
      simp only [hk, List.getElem_cons_succ, List.getElem_drop]
      exact h.2 _ _ _
theorem ItsM.rem {i : Nat} (h : ItsM w N ms xs) (hi : i < ms.length) : ItsM w N (ms.take i ++ ms.drop (i + 1)) (xs.take i ++ xs.drop (i + 1)) := by
  have e := h.1
  refine ⟨by simp [e], fun j h1 h2 => ?_⟩
  by_cases c : j < i
  · have a1 : (ms.take i ++ ms.drop (i + 1))[j] = ms[j]'(by omega) := by rw [List.getElem_append_left (by rw [List.length_take]; omega), List.getElem_take]
    have a2 : (xs.take i ++ xs.drop (i + 1))[j] = xs[j]'(by omega) := by rw [List.getElem_append_left (by rw [List.length_take]; omega), List.getElem_take]
    rw [a1, a2]; exact h.2 j _ _
  · rw [List.getElem_append_right (by rw [List.length_take]; omega), List.getElem_append_right (by rw [List.length_take]; omega)]
    simp only [List.length_take, ← e, Nat.min_eq_left (Nat.le_of_lt hi), List.getElem_drop]
    exact h.2 _ _ _
/-- a copy put into a box, and the box into the row: the tail of Insert -/
theorem ins_tail (h : PM w B X ρ p) {i : Nat} (hi : i ≤ p.items.length) {A : Option Addr} {c : Nat} {x : List UInt8} (hr : Go.Dn.RB w A x) (hx : x.length ≤ 140737488355000) (hX : ∀ k, X k → k < w.heap.size) {Q : Ending → World → Prop}
    (hQ : ∀ w' ρ', ρ'.P = ρ.P → PM w' B X ρ' (insL p (i : Int) x).1 → (∀ k, PN ρ' k → PN ρ k ∨ w.heap.size ≤ k) → Keeps (PN ρ) w w' → Q (.returned (.int .i64 (insL p (i : Int) x).2)) w') :
    sel (decide ((x.length : Int) > (200 : Int))) (
    Q (.returned (.int .i64 (4 : Int))) w) (
    Calls Tryd.prog 18 #[.pointer (some (⟨ρ.P, 0, none⟩ : Addr))] w fun e5 w6 => ∃ (x7 : Int), e5 = .returned (.int .i64 x7) ∧ (
    sel (decide ((x.length : Int) > x7)) (
    Q (.returned (.int .i64 (81 : Int))) w6) (
    drW w6 fun w8 =>
    ∃ S9 : World → Prop, S9 w8 ∧ (
    hdS S9 ((⟨ρ.P, 0, none⟩ : Addr).add 3) fun A10 n10 c10 =>
    Calls Tryd.prog 33 #[.slice A x.length c] w8 fun e11 w12 => ∃ (A13 : Option Addr) (n13 : Nat) (c13 : Nat), e11 = .returned (.slice A13 n13 c13) ∧ (
    S9 w12 ∧ (
    alW w12 (.cells #[.slice A13 n13 c13] TB) fun B14 w15 =>
    S9 w15 ∧ (
    Calls Tryd.prog 44 #[.slice A10 n10 c10, .int .i64 (i : Int), .slice (some (⟨B14, 0, Option.none⟩ : Addr)) 1 1] w15 fun e16 w17 => ∃ (A18 : Option Addr) (n18 : Nat) (c18 : Nat), e16 = .returned (.slice A18 n18 c18) ∧ (
    S9 w17 ∧ (
    stW w17 ((⟨ρ.P, 0, none⟩ : Addr).add 3) (.slice A18 n18 c18) fun w19 =>
    Q (.returned (.int .i64 (0 : Int))) w19))))))))) := by
  have hok := insL_ok h.ok (i : Int) x
  unfold insL at hQ hok
  rw [if_neg (by omega)] at hQ hok
  by_cases q1 : 200 < x.length
  · rw [if_pos q1] at hQ
    exact sel_t (by simp; omega) (hQ w ρ rfl h (fun k => .inl) (.refl _ _))
  rw [if_neg q1] at hQ hok
  refine sel_f (by simp; omega) ((Room_pg h).mono ?_)
  rintro _ _ ⟨rfl, rfl⟩
  refine ⟨_, rfl, ?_⟩
  by_cases q2 : roomL p < x.length
  · rw [if_pos q2] at hQ
    exact sel_t (by simp; omega) (hQ _ ρ rfl h (fun k => .inl) (.refl _ _))
  rw [if_neg q2] at hQ hok
  refine sel_f (by simp; omega) (drW_intro ⟨fun W => HB W ρ.P (pgC ρ p) TPg, ?_⟩)
  rename_i w0
  have gd : Below w0.heap.size w0 w0.drew := (Below.refl _ _).drew
  have h1 := h.below gd
  refine ⟨h1.hb, ⟨ρ.A, p.items.length, ρ.c, fun W hW => (hW.cell 3).trans rfl, (Clone_ok (hr.below gd (Nat.le_refl _)) rfl (by omega)).mono ?_⟩⟩
  rintro _ w2 ⟨A2, c2, rfl, o2, z2, g2⟩
  have h2 := h1.below g2
  refine ⟨_, _, _, rfl, h2.hb, al_new fun w3 b e3 s3 hb3 g3 => ?_⟩
  have h3 := h2.below g3
  refine ⟨h3.hb, ?_⟩
  obtain ⟨ms, k1, k2⟩ := h3.rc
  have hn := h.ok.n
  have o3 := o2.keep g3
  have nA : ¬ Ob ρ.A b := fun ho => by
    have := (h2.lt b (.inr ho)).1; omega
  have hml : ms.length = p.items.length := k2.1
  have ins := Insert_ok k1 (i := i) (by omega) (by omega) (x := (A2, x.length, c2)) hb3 nA h3.size
  rw [hml] at ins
  refine ins.mono ?_
  rintro _ w4 ⟨A4, c4, rfl, o4, k4, f4⟩
  have hb4 := h3.hb.keeps k4 h3.nA
  refine ⟨_, _, _, rfl, hb4, hb_st hb4 (j := 3) (by simp [pgC]) fun w5 q5 k5 => ?_⟩
  have sd := gd.size
  have s2 := g2.size
  have s4 := k4.size
  have hA4 : ∀ k, Ob A4 k → Ob ρ.A k ∨ w3.heap.size ≤ k := by
    rintro k ⟨a, ha, rfl⟩
    rcases f4 a ha with q | q
    · exact .inl ⟨a, q, rfl⟩
    · exact .inr q
  have nP : ¬ Ob A4 ρ.P := fun ho => by
    rcases hA4 _ ho with q | q
    · exact h3.nA q
    · have := h3.hb.lt; omega
  have o5 := o4.keeps k5 fun a ha e => nP ⟨a, ha, e⟩
  have kk : Keeps (PN ρ) w3 w5 := (k4.mono fun _ _ e => .inr e).trans (k5.mono fun _ _ e => .inl e)
  have its5 : ItsM w5 (fun k => (PN ρ k ∨ X k)) ms p.items := k2.keepsN kk fun k hk => .inl hk
  have new : ItM w5 (fun k => (PN ⟨ρ.P, A4, c4⟩ k ∨ X k)) (A2, x.length, c2) x := by
    have hq : ∀ a, A2 = some a → w0.drew.heap.size ≤ a.block ∧ a.block < w2.heap.size := fun a ha => o2.block a ha
    have nk : ∀ a, A2 = some a → ¬ PN ρ a.block := fun a ha hn => by have := (h1.lt _ hn).1; have := hq a ha; omega
    refine ⟨rfl, o2.le, RBk o3.reads kk nk, fun a ha => ⟨by have := hq a ha; have := k5.size; omega, ?_⟩, fun a ha => ?_⟩
    · rintro ((e | e) | e)
      · exact nk a ha (.inl e)
      · rcases hA4 _ e with q | q
        · exact nk a ha (.inr q)
        · have := hq a ha; omega
      · have := hX _ e; have := hq a ha; omega
    · obtain ⟨_, hh⟩ := o3
      rcases hh with ⟨hh, _⟩ | ⟨g, cap, cur, hv, _, hg, _⟩
      · injection hh with hh; rw [hh] at ha; cases ha
      · injection hv with hv
        have e : a.block = g := by rw [hv] at ha; cases ha; rfl
        exact ⟨cur, by rw [e]; exact HB.keeps hg kk (by rw [← e]; exact nk a ha)⟩
  have its6 : ItsM w5 (fun k => (PN ⟨ρ.P, A4, c4⟩ k ∨ X k)) ms p.items := ⟨its5.1, fun j q1 q2 => by
    have q := its5.2 j q1 q2
    have qo := k2.2 j q1 q2
    refine ⟨q.n, q.c, q.rb, fun a ha => ⟨(q.a a ha).1, ?_⟩, q.ty⟩
    rintro ((e | e) | e)
    · exact (q.a a ha).2 (.inl (.inl e))
    · rcases hA4 _ e with q' | q'
      · exact (q.a a ha).2 (.inl (.inr q'))
      · have := (qo.a a ha).1; omega
    · exact (q.a a ha).2 (.inr e)⟩
  have fin := its6.ins new (i := i) (by omega)
  have hlen : (p.items.take i ++ x :: p.items.drop i).length = p.items.length + 1 := by rw [List.length_append, List.length_take, List.length_cons, List.length_drop]; omega
  rw [Int.toNat_natCast] at hQ hok
  refine hQ w5 ⟨ρ.P, A4, c4⟩ rfl ⟨?_, h.lo, ⟨_, o5, fin⟩, hok⟩ ?_ ?_
  · show HB w5 ρ.P #[.int .i64 (p.lsn : Int), .int .u8 (p.kind.toNat : Int), .int .u32 (p.extra : Int), .slice A4 (p.items.take i ++ x :: p.items.drop i).length c4] TPg
    rw [hlen]; exact q5
  · rintro k (e | e)
    · exact .inl (.inl e)
    · rcases hA4 k e with q | q
      · exact .inl (.inr q)
      · exact .inr (by omega)
  · exact (((Keeps.of_below gd).trans (.of_below g2)).trans (.of_below g3)).trans kk
theorem Insert_pg (h : PM w B X ρ p) {i : Int} {A : Option Addr} {n c : Nat} {x : List UInt8} (hr : Go.Dn.RB w A x) (hn : n = x.length) (hx : x.length ≤ 140737488355000) (hX : ∀ k, X k → k < w.heap.size) :
    Calls Tryd.prog 20 #[.pointer (some ⟨ρ.P, 0, none⟩), .int .i64 i, .slice A n c] w fun e w' => ∃ ρ', e = .returned (.int .i64 (insL p i x).2) ∧ ρ'.P = ρ.P ∧ PM w' B X ρ' (insL p i x).1 ∧ (∀ k, PN ρ' k → PN ρ k ∨ w.heap.size ≤ k) ∧ Keeps (PN ρ) w w' := by
  subst hn
  apply f_page_Page_Insert.ok
  unfold f_page_Page_Insert.wp
  refine (bad_pg h).mono ?_
  rintro _ wq ⟨rfl, rfl⟩
  refine ⟨_, rfl, ?_⟩
  by_cases q : i < 0 ∨ (p.items.length : Int) ≤ i
  · refine sel_t (by simpa using q) (hb_ldS h.hb (j := 3) (A := ρ.A) (n := p.items.length) (c := ρ.c) rfl ?_)
    by_cases q2 : i = (p.items.length : Int)
    · subst q2
      refine sel_f (by simp) (ins_tail (Q := fun e w' => ∃ ρ', e = .returned (.int .i64 (insL p (p.items.length : Int) x).2) ∧ ρ'.P = ρ.P ∧ PM w' B X ρ' (insL p (p.items.length : Int) x).1 ∧ (∀ k, PN ρ' k → PN ρ k ∨ wq.heap.size ≤ k) ∧ Keeps (PN ρ) wq w') h (Nat.le_refl _) hr hx hX fun w' ρ' e1 h' e2 e3 => ⟨ρ', rfl, e1, h', e2, e3⟩)
    · refine sel_t (by simpa using q2) ?_
      have e : insL p i x = (p, 82) := by unfold insL; rw [if_pos (by omega)]
      rw [e]
      exact ⟨ρ, rfl, rfl, h, fun k => .inl, .refl _ _⟩
  · obtain ⟨k, rfl⟩ : ∃ k : Nat, i = (k : Int) := ⟨i.toNat, by omega⟩
    exact sel_f (by simpa using q) (ins_tail (Q := fun e w' => ∃ ρ', e = .returned (.int .i64 (insL p (k : Int) x).2) ∧ ρ'.P = ρ.P ∧ PM w' B X ρ' (insL p (k : Int) x).1 ∧ (∀ k, PN ρ' k → PN ρ k ∨ wq.heap.size ≤ k) ∧ Keeps (PN ρ) wq w') h (by omega) hr hx hX fun w' ρ' e1 h' e2 e3 => ⟨ρ', rfl, e1, h', e2, e3⟩)
theorem Remove_pg (h : PM w B X ρ p) {i : Int} :
    Calls Tryd.prog 22 #[.pointer (some ⟨ρ.P, 0, none⟩), .int .i64 i] w fun e w' => e = .returned (.int .i64 (remL p i).2) ∧ PM w' B X ρ (remL p i).1 ∧ Keeps (PN ρ) w w' := by
  have hok := remL_ok h.ok i
  apply f_page_Page_Remove.ok
  unfold f_page_Page_Remove.wp
  refine (bad_pg h).mono ?_
  rintro _ _ ⟨rfl, rfl⟩
  refine ⟨_, rfl, ?_⟩
  unfold remL at hok ⊢
  by_cases q : i < 0 ∨ (p.items.length : Int) ≤ i
  · rw [if_pos q]
    exact sel_t (by simpa using q) ⟨rfl, h, .refl _ _⟩
  rw [if_neg q] at hok ⊢
  obtain ⟨k, rfl⟩ : ∃ k : Nat, i = (k : Int) := ⟨i.toNat, by omega⟩
  rw [Int.toNat_natCast] at hok ⊢
  have hn := h.ok.n
  obtain ⟨ms, m1, m2⟩ := h.rc
  have hml : ms.length = p.items.length := m2.1
  refine sel_f (by simpa using q) (hb_ldS h.hb (j := 3) (A := ρ.A) (n := p.items.length) (c := ρ.c) rfl ?_)
  rw [show IntKind.i64.wrap ((k : Int) + 1) = ((k + 1 : Nat) : Int) by rw [w64_in (by omega)]; omega]
  have del := Delete_ok m1 (i := k) (by omega) (by omega)
  rw [hml] at del
  refine del.mono ?_
  rintro _ w1 ⟨rfl, o1, k1⟩
  refine ⟨_, _, _, rfl, hb_st (h.hb.keeps k1 h.nA) (j := 3) (by simp [pgC]) fun w2 q2 k2 => ⟨rfl, ?_, (k1.mono fun _ _ e => .inr e).trans (k2.mono fun _ _ e => .inl e)⟩⟩
  have hlen : (p.items.take k ++ p.items.drop (k + 1)).length = p.items.length - 1 := by rw [List.length_append, List.length_take, List.length_drop]; omega
  have kk : Keeps (PN ρ) _ w2 := (k1.mono fun _ _ e => .inr e).trans (k2.mono fun _ _ e => .inl e)
  refine ⟨?_, h.lo, ⟨_, o1.keeps k2 fun a ha e => h.nA ⟨a, ha, e⟩, (m2.keepsN kk fun k hk => .inl hk).rem (by omega)⟩, hok⟩
  show HB w2 ρ.P #[.int .i64 (p.lsn : Int), .int .u8 (p.kind.toNat : Int), .int .u32 (p.extra : Int), .slice ρ.A (p.items.take k ++ p.items.drop (k + 1)).length ρ.c] TPg
  rw [hlen]; exact q2
theorem ItsM.set {x : List UInt8} {m : SM} {i : Nat} (h : ItsM w N ms xs) (hm : ItM w N m x) : ItsM w N (ms.set i m) (xs.set i x) := by
  refine ⟨by simp [h.1], fun j h1 h2 => ?_⟩
  rw [List.getElem_set, List.getElem_set]
  by_cases c : i = j
  · rw [if_pos c, if_pos c]; exact hm
  · rw [if_neg c, if_neg c]; exact h.2 j _ _
theorem Replace_pg (h : PM w B X ρ p) {i : Int} {A : Option Addr} {n c : Nat} {x : List UInt8} (hr : Go.Dn.RB w A x) (hn : n = x.length) (hx : x.length ≤ 140737488355000) (hX : ∀ k, X k → k < w.heap.size) :
    Calls Tryd.prog 24 #[.pointer (some ⟨ρ.P, 0, none⟩), .int .i64 i, .slice A n c] w fun e w' => e = .returned (.int .i64 (repL p i x).2) ∧ PM w' B X ρ (repL p i x).1 ∧ Keeps (PN ρ) w w' := by
  subst hn
  have hok := repL_ok h.ok i x
  apply f_page_Page_Replace.ok
  unfold f_page_Page_Replace.wp
  refine (bad_pg h).mono ?_
  rintro _ w ⟨rfl, rfl⟩
  refine ⟨_, rfl, ?_⟩
  unfold repL at hok ⊢
  by_cases q : i < 0 ∨ (p.items.length : Int) ≤ i
  · rw [if_pos q]
    exact sel_t (by simpa using q) ⟨rfl, h, .refl _ _⟩
  rw [if_neg q] at hok ⊢
  refine sel_f (by simpa using q) ?_
  obtain ⟨k, rfl⟩ : ∃ k : Nat, i = (k : Int) := ⟨i.toNat, by omega⟩
  rw [Int.toNat_natCast] at hok ⊢
  by_cases q1 : 200 < x.length
  · rw [if_pos q1]
    exact sel_t (by simp; omega) ⟨rfl, h, .refl _ _⟩
  rw [if_neg q1] at hok ⊢
  have hlt : k < p.items.length := by omega
  have hn := h.ok.n
  have hu := h.ok.u
  obtain ⟨ms, m1, m2⟩ := h.rc
  have hml : ms.length = p.items.length := m2.1
  have gd : Below w.heap.size w w.drew := (Below.refl _ _).drew
  obtain ⟨a, eA, _⟩ := (m1.reads ES) k (by omega)
  have hq := m2.2 k (by omega) hlt
  have hxk := h.ok.x _ (List.getElem_mem hlt)
  have hd1 := h.below gd
  have r1 := (m1.below gd).reads ES
  refine sel_f (by simp; omega) (drW_intro ⟨fun W => HB W ρ.P (pgC ρ p) TPg ∧ RowE eS 1 W ρ.A ms, ⟨hd1.hb, r1⟩, ⟨ρ.A, p.items.length, ρ.c, fun W hW => (hW.1.cell 3).trans rfl, optB_some eA (req_intro (by simp; omega) ⟨ms[k].1, ms[k].2.1, ms[k].2.2, fun W hW => ?_, (free_pg hd1).mono ?_⟩)⟩⟩)
  · obtain ⟨a', ea', hc⟩ := hW.2 k (by omega)
    rw [eA] at ea'; cases ea'
    have := hc 0 (by decide)
    rw [Go.Dn.add_zero] at this
    exact this
  rintro _ _ ⟨rfl, rfl⟩
  have hg : p.items.getD k [] = p.items[k] := by rw [List.getD_eq_getElem?_getD, List.getElem?_eq_getElem hlt, Option.getD_some]
  have hle : lensL (p.items.take (k + 1)) ≤ lensL p.items := lensL_le p.items (k + 1)
  have hfr : freeL p = 494 - 2 * (p.items.length : Int) - (lensL p.items : Int) := rfl
  refine ⟨_, rfl, ⟨hd1.hb, r1⟩, ?_⟩
  rw [hg] at hok ⊢
  rw [hq.n, w64_in (by omega)]
  by_cases q2 : freeL p + (p.items[k].length : Int) < x.length
  · rw [if_pos q2]
    exact sel_t (by simp; omega) ⟨rfl, hd1, .of_below gd⟩
  rw [if_neg q2] at hok ⊢
  have gd2 : Below w.heap.size w w.drew.drew := gd.drew
  have hd2 := h.below gd2
  refine sel_f (by simp; omega) (drW_intro ⟨fun W => HB W ρ.P (pgC ρ p) TPg, hd2.hb, ⟨ρ.A, p.items.length, ρ.c, fun W hW => (hW.cell 3).trans rfl, (Clone_ok (hr.below gd2 (Nat.le_refl _)) rfl (by omega)).mono ?_⟩⟩)
  rintro _ w2 ⟨A2, c2, rfl, o2, z2, g2⟩
  have g02 := gd2.trans (g2.mono gd2.size)
  have h2 := h.below g02
  have m1' := m1.below g02
  have m2' := m2.below g02
  obtain ⟨cur, ea, hB, hb, hs, hnc, hcm, hcur⟩ := m1'.open1 eA
  obtain ⟨g, hgg⟩ : ∃ g, a.block = g := ⟨_, rfl⟩
  rw [hgg] at ea hB hb
  subst ea
  refine ⟨_, _, _, rfl, h2.hb, optB_some eA (req_intro (by simp; omega) ?_)⟩
  rw [Nat.mul_one]
  refine hb_st hb (by omega) fun w3 h3 k3 => ⟨rfl, ?_, ?_⟩
  · have hne : ρ.P ≠ g := fun e => h2.nA ⟨_, eA, e.symm⟩
    have kk : Keeps (PN ρ) w2 w3 := k3.mono fun _ _ e => .inr ⟨_, eA, e.symm⟩
    have hsz := gd2.size
    have hq2 : ∀ a, A2 = some a → w.drew.drew.heap.size ≤ a.block ∧ a.block < w2.heap.size := fun a ha => o2.block a ha
    have nk : ∀ a, A2 = some a → ¬ PN ρ a.block := fun a ha hn => by have := (hd2.lt _ hn).1; have := hq2 a ha; omega
    have new : ItM w3 (fun k => PN ρ k ∨ X k) (A2, x.length, c2) x := by
      refine ⟨rfl, o2.le, RBk o2.reads kk nk, fun a ha => ⟨by have := hq2 a ha; have := k3.size; omega, ?_⟩, fun a ha => ?_⟩
      · rintro (e | e)
        · exact nk a ha e
        · have := hX _ e; have := hq2 a ha; omega
      · obtain ⟨_, hh⟩ := o2
        rcases hh with ⟨hh, _⟩ | ⟨g', cap, cur', hv, _, hg', _⟩
        · injection hh with hh; rw [hh] at ha; cases ha
        · injection hv with hv
          have e : a.block = g' := by rw [hv] at ha; cases ha; rfl
          exact ⟨cur', by rw [e]; exact HB.keeps hg' kk (by rw [← e]; exact nk a ha)⟩
    refine ⟨?_, h.lo, ⟨ms.set k (A2, x.length, c2), ?_, (m2'.keepsN kk fun k hk => .inl hk).set new⟩, hok⟩
    · show HB w3 ρ.P #[.int .i64 (p.lsn : Int), .int .u8 (p.kind.toNat : Int), .int .u32 (p.extra : Int), .slice ρ.A (p.items.set k x).length ρ.c] TPg
      rw [List.length_set]
      exact h2.hb.keeps k3 hne
    · rw [eA]
      refine OwnE.make1 h3 hB (by simp; exact hs) (by rw [List.length_set]; exact hnc) hcm fun j hj => ?_
      rw [List.length_set] at hj
      rw [List.getElem_set]
      by_cases c : k = j
      · subst c
        rw [if_pos rfl, Array.getElem?_setIfInBounds_self, if_pos (by omega)]; rfl
      · rw [if_neg c, Array.getElem?_setIfInBounds_ne c]; exact hcur j hj
  · exact (Keeps.of_below g02).trans (k3.mono fun _ _ e => .inr ⟨_, eA, e.symm⟩)
end
end Go.Proofs.YtifambgaekjilaaDoor.Rd
