/- page: a page in memory; asked. Conditions: none. -/
import Derived.Test.YtifambgaekjilaaDoorPgB
import Derived.Test.YtifambgaekjilaaDoorHelpC
import Derived.Test.YtifambgaekjilaaDoorHp2
namespace Go.Proofs.YtifambgaekjilaaDoor.Rd
open Go.Dn Go.RowKit
set_option linter.unusedVariables false
set_option linter.unusedSimpArgs false
set_option maxRecDepth 100000
structure Pg where
  lsn : Nat
  kind : UInt8
  extra : Nat
  items : List (List UInt8)
def lensL (its : List (List UInt8)) : Nat := (its.map List.length).sum
def freeL (p : Pg) : Int := 494 - 2 * (p.items.length : Int) - (lensL p.items : Int)
def roomL (p : Pg) : Int := if 100 ≤ p.items.length then -1 else if freeL p - 2 < -1 then -1 else if 200 < freeL p - 2 then 200 else freeL p - 2
structure PgOk (p : Pg) : Prop where
  n : p.items.length ≤ 100
  x : ∀ x ∈ p.items, x.length ≤ 200
  u : 18 + 2 * p.items.length + lensL p.items ≤ 512
  l : p.lsn < 9223372036854775808
  e : p.extra < 4294967296
abbrev TPg : TypeId := 62
abbrev TU8 : TypeId := 5
structure RPg where
  P : Nat
  A : Option Addr
  c : Nat
def PN (ρ : RPg) (k : Nat) : Prop := k = ρ.P ∨ Ob ρ.A k
def pgC (ρ : RPg) (p : Pg) : Array Value := #[.int .i64 (p.lsn : Int), .int .u8 (p.kind.toNat : Int), .int .u32 (p.extra : Int), .slice ρ.A p.items.length ρ.c]
structure ItM (w : World) (N : Nat → Prop) (m : SM) (x : List UInt8) : Prop where
  n : m.2.1 = x.length
  c : m.2.1 ≤ m.2.2
  rb : Go.Dn.RB w m.1 x
  a : ∀ a, m.1 = some a → a.block < w.heap.size ∧ ¬ N a.block
  ty : ∀ a, m.1 = some a → ∃ cs, HB w a.block cs TU8
def ItsM (w : World) (N : Nat → Prop) (ms : List SM) (xs : List (List UInt8)) : Prop := ms.length = xs.length ∧ ∀ i (h : i < ms.length) (h' : i < xs.length), ItM w N ms[i] xs[i]
structure PM (w : World) (B : Nat) (X : Nat → Prop) (ρ : RPg) (p : Pg) : Prop where
  hb : HB w ρ.P (pgC ρ p) TPg
  lo : B ≤ ρ.P
  rc : ∃ ms, OwnE eS 1 w B TB ρ.A ρ.c ms ∧ ItsM w (fun k => PN ρ k ∨ X k) ms p.items
  ok : PgOk p
section
variable {w w' : World} {N N' S X X' : Nat → Prop} {B B1 : Nat} {m : SM} {x : List UInt8} {ms : List SM} {xs : List (List UInt8)} {ρ : RPg} {p : Pg}
theorem RBk {A : Option Addr} {l : List UInt8} (h : Go.Dn.RB w A l) (k : Keeps S w w') (hA : ∀ a, A = some a → ¬ S a.block) : Go.Dn.RB w' A l := fun i hi => by
  obtain ⟨a, ha, hc⟩ := h i hi
  exact ⟨a, ha, k.cell hc (by rw [Go.Dn.add_block]; exact hA a ha)⟩
theorem ItM.keepsT (h : ItM w N m x) (k : Keeps S w w') (hT : ∀ k, S k → ∀ cs, ¬ HB w k cs TU8) : ItM w' N m x :=
  have hn : ∀ a, m.1 = some a → ¬ S a.block := fun a ha hs => by
    obtain ⟨cs, hc⟩ := h.ty a ha
    exact hT _ hs cs hc
  ⟨h.n, h.c, RBk h.rb k hn, fun a ha => ⟨Nat.lt_of_lt_of_le (h.a a ha).1 k.size, (h.a a ha).2⟩, fun a ha => by
    obtain ⟨cs, hc⟩ := h.ty a ha
    exact ⟨cs, hc.keeps k (hn a ha)⟩⟩
theorem ItM.keepsN (h : ItM w N m x) (k : Keeps S w w') (hS : ∀ k, S k → N k) : ItM w' N m x :=
  have hn : ∀ a, m.1 = some a → ¬ S a.block := fun a ha hs => (h.a a ha).2 (hS _ hs)
  ⟨h.n, h.c, RBk h.rb k hn, fun a ha => ⟨Nat.lt_of_lt_of_le (h.a a ha).1 k.size, (h.a a ha).2⟩, fun a ha => by
    obtain ⟨cs, hc⟩ := h.ty a ha
    exact ⟨cs, hc.keeps k (hn a ha)⟩⟩
theorem ItM.below (h : ItM w N m x) (k : Below w.heap.size w w') : ItM w' N m x := h.keepsN (S := fun _ => False) (.of_below k) fun _ => False.elim
theorem ItM.out (h : ItM w N m x) (hN : ∀ k, k < w.heap.size → N' k → N k) : ItM w N' m x := ⟨h.n, h.c, h.rb, fun a ha => ⟨(h.a a ha).1, fun hn => (h.a a ha).2 (hN _ (h.a a ha).1 hn)⟩, h.ty⟩
theorem ItsM.keepsT (h : ItsM w N ms xs) (k : Keeps S w w') (hT : ∀ k, S k → ∀ cs, ¬ HB w k cs TU8) : ItsM w' N ms xs := ⟨h.1, fun i h1 h2 => (h.2 i h1 h2).keepsT k hT⟩
theorem ItsM.keepsN (h : ItsM w N ms xs) (k : Keeps S w w') (hS : ∀ k, S k → N k) : ItsM w' N ms xs := ⟨h.1, fun i h1 h2 => (h.2 i h1 h2).keepsN k hS⟩
theorem ItsM.below (h : ItsM w N ms xs) (k : Below w.heap.size w w') : ItsM w' N ms xs := ⟨h.1, fun i h1 h2 => (h.2 i h1 h2).below k⟩
theorem ItsM.out (h : ItsM w N ms xs) (hN : ∀ k, k < w.heap.size → N' k → N k) : ItsM w N' ms xs := ⟨h.1, fun i h1 h2 => (h.2 i h1 h2).out hN⟩
theorem ob_ty {α : Type} {enc : α → List Value} {k c : Nat} {A : Option Addr} {l : List α} (h : OwnE enc k w B TB A c l) : ∀ b, Ob A b → ∀ cs t, HB w b cs t → t = TB := by
  rintro b ⟨a, ha, rfl⟩ cs t hc
  obtain ⟨cs', hc'⟩ := own_hb h ha
  exact HB.ty hc hc'
theorem PM.nA (h : PM w B X ρ p) : ¬ Ob ρ.A ρ.P := fun ho => by
  obtain ⟨ms, h1, _⟩ := h.rc
  exact absurd (ob_ty h1 _ ho _ _ h.hb) (by decide)
theorem PM.lt (h : PM w B X ρ p) : ∀ k, PN ρ k → k < w.heap.size ∧ B ≤ k := by
  rintro k (rfl | ⟨a, ha, rfl⟩)
  · exact ⟨h.hb.lt, h.lo⟩
  · obtain ⟨ms, h1, _⟩ := h.rc
    exact ⟨(h1.block a ha).2, (h1.block a ha).1⟩
theorem PM.nT (h : PM w B X ρ p) : ∀ k, PN ρ k → ∀ cs, ¬ HB w k cs TU8 := by
  rintro k (rfl | hk) cs hc
  · exact absurd (HB.ty hc h.hb) (by decide)
  · obtain ⟨ms, h1, _⟩ := h.rc
    exact absurd (ob_ty h1 _ hk _ _ hc) (by decide)
/-- what others change -/
theorem PM.keepsT (h : PM w B X ρ p) (k : Keeps S w w') (hS : ∀ k, PN ρ k → ¬ S k) (hT : ∀ k, S k → ∀ cs, ¬ HB w k cs TU8) : PM w' B X ρ p := by
  obtain ⟨ms, h1, h2⟩ := h.rc
  exact ⟨h.hb.keeps k (hS _ (.inl rfl)), h.lo, ⟨ms, h1.keeps k fun a ha => hS _ (.inr ⟨a, ha, rfl⟩), h2.keepsT k hT⟩, h.ok⟩
theorem PM.keepsX (h : PM w B X ρ p) (k : Keeps S w w') (hS : ∀ k, PN ρ k → ¬ S k) (hX : ∀ k, S k → X k) : PM w' B X ρ p := by
  obtain ⟨ms, h1, h2⟩ := h.rc
  exact ⟨h.hb.keeps k (hS _ (.inl rfl)), h.lo, ⟨ms, h1.keeps k fun a ha => hS _ (.inr ⟨a, ha, rfl⟩), h2.keepsN k fun k hk => .inr (hX k hk)⟩, h.ok⟩
theorem PM.below (h : PM w B X ρ p) (k : Below w.heap.size w w') : PM w' B X ρ p := h.keepsX (S := fun _ => False) (.of_below k) (fun _ _ => id) fun _ => False.elim
theorem PM.outX (h : PM w B X ρ p) (hX : ∀ k, k < w.heap.size → X' k → X k) : PM w B X' ρ p := by
  obtain ⟨ms, h1, h2⟩ := h.rc
  exact ⟨h.hb, h.lo, ⟨ms, h1, h2.out fun k hk hn => hn.imp id (hX k hk)⟩, h.ok⟩
theorem PM.bel (h : PM w B X ρ p) (k : Keeps (PN ρ) w w') : Below B w w' := k.below (by have := (h.lt _ (.inl rfl)); omega) fun i hi hN => by have := (h.lt i hN).2; omega
theorem PM.size (h : PM w B X ρ p) : B ≤ w.heap.size := by have := h.lt _ (.inl rfl); omega
theorem New_pg (w : World) (kind : Int) (extra : Nat) (he : extra < 4294967296) :
    Calls Tryd.prog 28 #[.int .i64 kind, .int .u32 (extra : Int)] w fun e w' => ∃ ρ, e = .returned (.pointer (some ⟨ρ.P, 0, none⟩)) ∧ PM w' w.heap.size (fun _ => False) ρ ⟨0, UInt8.ofNat (kind % 256).toNat, extra, []⟩ ∧ Below w.heap.size w w' := by
  apply f_page_New.ok
  unfold f_page_New.wp
  refine al_new fun w2 b e2 s2 h2 g2 => ⟨⟨b, none, 0⟩, rfl, ⟨?_, by show w.heap.size ≤ b; omega, ⟨[], OwnE.none _ _ _ _ _, rfl, fun i h => absurd h (Nat.not_lt_zero _)⟩, ⟨Nat.zero_le _, fun x h => (by cases h), by show 18 + 2 * 0 + 0 ≤ 512; omega, (by show 0 < 9223372036854775808; decide), he⟩⟩, g2⟩
  have e : (IntKind.u8.wrap kind) = ((UInt8.ofNat (kind % 256).toNat).toNat : Int) := by
    rw [u8w, UInt8.toNat_ofNat']; omega
  rw [e] at h2
  exact h2
theorem Len_pg (h : PM w B X ρ p) : Calls Tryd.prog 19 #[.pointer (some ⟨ρ.P, 0, none⟩)] w fun e w' => e = .returned (.int .i64 (p.items.length : Int)) ∧ w' = w := by
  apply f_page_Page_Len.ok
  unfold f_page_Page_Len.wp
  exact hb_ldS h.hb (j := 3) rfl ⟨rfl, rfl⟩
theorem LSN_pg (h : PM w B X ρ p) : Calls Tryd.prog 26 #[.pointer (some ⟨ρ.P, 0, none⟩)] w fun e w' => e = .returned (.int .i64 (p.lsn : Int)) ∧ w' = w := by
  apply f_page_Page_LSN.ok
  unfold f_page_Page_LSN.wp
  exact hb_ldI0 h.hb rfl ⟨rfl, rfl⟩
theorem Extra_pg (h : PM w B X ρ p) : Calls Tryd.prog 27 #[.pointer (some ⟨ρ.P, 0, none⟩)] w fun e w' => e = .returned (.int .u32 (p.extra : Int)) ∧ w' = w := by
  apply f_page_Page_Extra.ok
  unfold f_page_Page_Extra.wp
  exact hb_ldI h.hb (j := 2) rfl ⟨rfl, rfl⟩
theorem Kind_pg (h : PM w B X ρ p) : Calls Tryd.prog 29 #[.pointer (some ⟨ρ.P, 0, none⟩)] w fun e w' => e = .returned (.int .i64 (p.kind.toNat : Int)) ∧ w' = w := by
  apply f_page_Page_Kind.ok
  unfold f_page_Page_Kind.wp
  have := p.kind.toNat_lt
  refine hb_ldI h.hb (j := 1) rfl ⟨?_, rfl⟩
  rw [w64_in (by omega)]
theorem PM.cells {p' : Pg} (h : PM w B X ρ p) (k : Keeps (fun k => k = ρ.P) w w') (hb : HB w' ρ.P (pgC ρ p') TPg) (ei : p'.items = p.items) (ok : PgOk p') : PM w' B X ρ p' := by
  obtain ⟨ms, h1, h2⟩ := h.rc
  exact ⟨hb, h.lo, ⟨ms, h1.keeps k fun a ha e => h.nA ⟨a, ha, e⟩, by rw [ei]; exact h2.keepsN k fun k e => .inl (.inl e)⟩, ok⟩
theorem SetExtra_pg (h : PM w B X ρ p) {x : Nat} (hx : x < 4294967296) : Calls Tryd.prog 50 #[.pointer (some ⟨ρ.P, 0, none⟩), .int .u32 (x : Int)] w fun e w' => e = .returned (.tuple #[]) ∧ PM w' B X ρ { p with extra := x } ∧ Keeps (fun k => k = ρ.P) w w' := by
  apply f_page_Page_SetExtra.ok
  unfold f_page_Page_SetExtra.wp
  exact hb_st h.hb (j := 2) (by simp [pgC]) fun w2 h2 k2 => ⟨rfl, h.cells (p' := { p with extra := x }) k2 h2 rfl ⟨h.ok.n, h.ok.x, h.ok.u, h.ok.l, hx⟩, k2⟩
theorem SetLSN_pg (h : PM w B X ρ p) {x : Int} (hx : x ≤ 9223372036854775807) : Calls Tryd.prog 51 #[.pointer (some ⟨ρ.P, 0, none⟩), .int .i64 x] w fun e w' => e = .returned (.tuple #[]) ∧ PM w' B X ρ { p with lsn := x.toNat } ∧ Keeps (fun k => k = ρ.P) w w' := by
  apply f_page_Page_SetLSN.ok
  unfold f_page_Page_SetLSN.wp
  have e : (if (0 : Int) > x then (0 : Int) else x) = ((x.toNat : Nat) : Int) := by split <;> omega
  rw [e]
  exact hb_st0 h.hb (by simp [pgC]) fun w2 h2 k2 => ⟨rfl, h.cells (p' := { p with lsn := x.toNat }) k2 h2 rfl ⟨h.ok.n, h.ok.x, h.ok.u, by show x.toNat < _; omega, h.ok.e⟩, k2⟩
theorem bad_pg (h : PM w B X ρ p) {i : Int} : Calls Tryd.prog 43 #[.pointer (some ⟨ρ.P, 0, none⟩), .int .i64 i] w fun e w' => e = .returned (.bool (decide (i < 0 ∨ (p.items.length : Int) ≤ i))) ∧ w' = w := by
  apply f_page_Page_bad.ok
  unfold f_page_Page_bad.wp
  by_cases h1 : i < 0
  · refine sel_t (by simpa using h1) ⟨?_, rfl⟩
    rw [decide_eq_true (Or.inl h1)]
  · refine sel_f (by simpa using h1) (hb_ldS h.hb (j := 3) rfl ⟨?_, rfl⟩)
    congr 2
    simp [h1]
theorem lensL_take (its : List (List UInt8)) {i : Nat} (h : i < its.length) : lensL (its.take (i + 1)) = lensL (its.take i) + its[i].length := by
  unfold lensL
  rw [List.take_succ_eq_append_getElem h, List.map_append, List.sum_append]; simp
theorem lensL_le (its : List (List UInt8)) (i : Nat) : lensL (its.take i) ≤ lensL its := by
  have := List.take_append_drop i its
  have h2 : lensL its = lensL (its.take i) + lensL (its.drop i) := by
    unfold lensL
    rw [← List.sum_append, ← List.map_append, this]
  omega
theorem free_pg (h : PM w B X ρ p) : Calls Tryd.prog 42 #[.pointer (some ⟨ρ.P, 0, none⟩)] w fun e w' => e = .returned (.int .i64 (freeL p)) ∧ w' = w := by
  obtain ⟨ms, h1, h2⟩ := h.rc
  have hn := h.ok.n
  have hu := h.ok.u
  apply f_page_Page_free.ok
  unfold f_page_Page_free.wp
  refine hb_ldS h.hb (j := 3) (A := ρ.A) (n := p.items.length) (c := ρ.c) rfl (hb_ldS h.hb (j := 3) (A := ρ.A) (n := p.items.length) (c := ρ.c) rfl ⟨p.items.length + 1, ?_⟩)
  have main : ∀ {K : Int → World → Prop}, K (freeL p) w → ∀ (m i : Nat), m + i = p.items.length → f_page_Page_free.l0 (m + 1) (494 - 2 * (p.items.length : Int) - (lensL (p.items.take i) : Int)) ρ.A p.items.length ρ.c (p.items.length : Int) (i : Int) w K := by
    intro K hK m
    induction m with
    | zero =>
      intro i hi
      unfold f_page_Page_free.l0
      refine sel_f (by simp; omega) ?_
      rw [List.take_of_length_le (by omega)]; exact hK
    | succ m ih =>
      intro i hi
      have hlt : i < p.items.length := by omega
      have him : i < ms.length := by rw [h2.1]; exact hlt
      have hq := h2.2 i him hlt
      obtain ⟨a, ea, hc⟩ := (h1.reads ES) i him
      have hc0 := hc 0 (by decide)
      rw [Go.Dn.add_zero] at hc0
      unfold f_page_Page_free.l0
      refine sel_t (by simpa using hlt) (optB_some ea (req_intro (by simp; omega) ?_))
      rw [Int.toNat_natCast]
      refine ldS_intro (A := ms[i].1) (n := ms[i].2.1) (c := ms[i].2.2) hc0 ?_
      rw [show IntKind.i64.wrap ((i : Int) + 1) = ((i + 1 : Nat) : Int) by rw [w64_in (by omega)]; omega, hq.n]
      have ht := lensL_take p.items hlt
      have hle := lensL_le p.items (i + 1)
      rw [w64_in (by omega), show (494 - 2 * (p.items.length : Int) - (lensL (p.items.take i) : Int)) - (p.items[i].length : Int) = 494 - 2 * (p.items.length : Int) - (lensL (p.items.take (i + 1)) : Int) by omega]
      exact ih (i + 1) (by omega)
  have := main (K := fun x5 w6 => ∀ _ : Fr, (Ending.returned (.int .i64 x5)) = .returned (.int .i64 (freeL p)) ∧ w6 = w) (fun _ => ⟨rfl, rfl⟩) p.items.length 0 rfl
  rw [w64_in (x := 2 * (p.items.length : Int)) (by omega), w64_in (by omega)]
  simpa [lensL] using this
theorem Room_pg (h : PM w B X ρ p) : Calls Tryd.prog 18 #[.pointer (some ⟨ρ.P, 0, none⟩)] w fun e w' => e = .returned (.int .i64 (roomL p)) ∧ w' = w := by
  have hn := h.ok.n
  have hu := h.ok.u
  apply f_page_Page_Room.ok
  unfold f_page_Page_Room.wp
  refine hb_ldS h.hb (j := 3) (A := ρ.A) (n := p.items.length) (c := ρ.c) rfl ?_
  unfold roomL
  by_cases q : 100 ≤ p.items.length
  · rw [if_pos q]
    exact sel_t (by simp; omega) ⟨rfl, rfl⟩
  rw [if_neg q]
  refine sel_f (by simp; omega) ((free_pg h).mono ?_)
  rintro _ _ ⟨rfl, rfl⟩
  refine ⟨_, rfl, ?_, rfl⟩
  have : IntKind.i64.wrap (freeL p - 2) = freeL p - 2 := w64_in (by unfold freeL; omega)
  rw [this]
  congr 2
  repeat' split
  all_goals omega
theorem Item_pg (h : PM w B X ρ p) {i : Int} : Calls Tryd.prog 21 #[.pointer (some ⟨ρ.P, 0, none⟩), .int .i64 i] w fun e w' => ∃ A c x f, e = .returned (.tuple #[.slice A x.length c, .int .i64 f]) ∧ OwnB w' w.heap.size TU8 A c x ∧ Below w.heap.size w w' ∧
      (if i < 0 ∨ (p.items.length : Int) ≤ i then x = [] ∧ f = 82 else f = 0 ∧ ∃ hi : i.toNat < p.items.length, x = p.items[i.toNat]) := by
  apply f_page_Page_Item.ok
  unfold f_page_Page_Item.wp
  refine (bad_pg h).mono ?_
  rintro _ _ ⟨rfl, rfl⟩
  refine ⟨_, rfl, ?_⟩
  by_cases q : i < 0 ∨ (p.items.length : Int) ≤ i
  · refine sel_t (by simpa using q) ⟨none, 0, [], 82, rfl, ?_, Below.refl _ _, by rw [if_pos q]; exact ⟨rfl, rfl⟩⟩
    exact World.ownsRow_nil _ _ _ _
  · refine sel_f (by simpa using q) ?_
    obtain ⟨ms, h1, h2⟩ := h.rc
    have hlt : i.toNat < p.items.length := by omega
    have him : i.toNat < ms.length := by rw [h2.1]; exact hlt
    have hq := h2.2 _ him hlt
    have hx := h.ok.x _ (List.getElem_mem hlt)
    obtain ⟨a, ea, hc⟩ := (h1.reads ES) _ him
    have hc0 := hc 0 (by decide)
    rw [Go.Dn.add_zero] at hc0
    refine hb_ldS h.hb (j := 3) (A := ρ.A) (n := p.items.length) (c := ρ.c) rfl (optB_some ea (req_intro (by simp; omega) (ldS_intro (A := ms[i.toNat].1) (n := ms[i.toNat].2.1) (c := ms[i.toNat].2.2) hc0 ((Clone_ok hq.rb hq.n (by omega)).mono ?_))))
    rintro _ w2 ⟨A2, c2, rfl, o2, z2, g2⟩
    exact ⟨_, _, _, rfl, A2, c2, _, 0, rfl, o2, g2, by rw [if_neg q]; exact ⟨rfl, hlt, rfl⟩⟩
end
end Go.Proofs.YtifambgaekjilaaDoor.Rd
