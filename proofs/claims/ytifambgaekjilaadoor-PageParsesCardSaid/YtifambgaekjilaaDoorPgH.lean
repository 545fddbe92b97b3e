/- page.Parse: a page read. Conditions: none. -/
import Derived.Test.YtifambgaekjilaaDoorPgE
import Derived.Test.YtifambgaekjilaaDoorPgG
import Derived.Test.YtifambgaekjilaaDoorWaB
namespace Go.Proofs.YtifambgaekjilaaDoor.Rd
open Go.Dn Go.RowKit
set_option linter.unusedVariables false
set_option linter.unusedSimpArgs false
set_option maxRecDepth 100000
def parseI (b : List UInt8) (at_ : Nat) : Nat → Nat → Nat → List (List UInt8) → Option (List (List UInt8) × Nat)
  | 0, _, e, acc => some (acc, e)
  | m + 1, i, e, acc => if e < (bAt b i).toNat + 256 * (bAt b (i + 1)).toNat ∨ (bAt b i).toNat + 256 * (bAt b (i + 1)).toNat < at_ ∨ 200 < e - ((bAt b i).toNat + 256 * (bAt b (i + 1)).toNat) then none
    else parseI b at_ m (i + 2) ((bAt b i).toNat + 256 * (bAt b (i + 1)).toNat) (acc ++ [(b.drop ((bAt b i).toNat + 256 * (bAt b (i + 1)).toNat)).take (e - ((bAt b i).toNat + 256 * (bAt b (i + 1)).toNat))])
def lsnB (b : List UInt8) : Nat := valS ((b.drop 4).take 8).reverse
def extB (b : List UInt8) : Nat := valS ((b.drop 13).take 4).reverse
def cntB (b : List UInt8) : Nat := (bAt b 17).toNat
def zeroes (l : List UInt8) : Bool := l.all (· == 0)
def parseL (b : List UInt8) : Option Pg :=
  if b.length ≠ 512 ∨ (openL b).2 = false ∨ 9223372036854775807 < lsnB b ∨ 100 < cntB b then none else
  match parseI b (18 + 2 * cntB b) (cntB b) 18 512 [] with
  | none => none
  | some (its, e) => if zeroes ((b.drop (18 + 2 * cntB b)).take (e - (18 + 2 * cntB b))) then some ⟨lsnB b, bAt b 12, extB b, its⟩ else none
theorem borP (x y : Nat) (hx : x < 256) (hy : y < 256) : bor .i64 (IntKind.i64.wrap (x : Int)) (IntKind.i64.wrap (IntKind.i64.wrap (y : Int) * 2 ^ 8)) = ((x + 256 * y : Nat) : Int) := by
  rw [w64_in (x := (x : Int)) (by omega), w64_in (x := (y : Int)) (by omega), show (y : Int) * 2 ^ 8 = ((y * 256 : Nat) : Int) by omega, w64_in (by omega)]
  show IntKind.i64.wrap (((BitVec.ofInt 64 ((x : Nat) : Int)) ||| BitVec.ofInt 64 ((y * 256 : Nat) : Int)).toNat : Int) = _
  rw [BitVec.toNat_or]
  have bvp : ∀ n : Nat, n < 18446744073709551616 → (BitVec.ofInt 64 (n : Int)).toNat = n := fun n h => by
    rw [BitVec.toNat_ofInt]; simp only [Nat.reducePow]; omega
  rw [bvp _ (by omega), bvp _ (by omega)]
  have e3 : x ||| y * 256 = x + 256 * y := by
    have := Nat.shiftLeft_add_eq_or_of_lt (i := 8) (b := x) (by omega) y
    rw [Nat.shiftLeft_eq, show (2 : Nat) ^ 8 = 256 from rfl] at this
    rw [Nat.or_comm]
    omega
  rw [e3, w64_in (by omega)]
section
variable {w w0 w' : World} {B : Nat} {X : Nat → Prop} {ρ : RPg} {p : Pg}
theorem rb_sl {A : Option Addr} {b : List UInt8} {f k c : Nat} (hr : Go.Dn.RB w A b) (hc : b.length ≤ c) : Go.Dn.RB w (slA A f c 1) ((b.drop f).take k) := fun i hi => by
  rw [List.length_take, List.length_drop] at hi
  obtain ⟨a, ea, h⟩ := hr (f + i) (by omega)
  refine ⟨a.add (f * 1), ?_, ?_⟩
  · unfold slA; rw [if_neg (by omega), ea]; rfl
  · rw [Go.Dn.add_add, Nat.mul_one, h, List.getElem_take, List.getElem_drop]
theorem rb_at {A : Option Addr} {b : List UInt8} (hr : Go.Dn.RB w A b) {j : Nat} (hj : j < b.length) : ∃ a, A = some a ∧ w.cell? (a.add (j * 1)) = some (.int .u8 ((bAt b j).toNat : Int)) := by
  obtain ⟨a, ea, h⟩ := hr j hj
  exact ⟨a, ea, by rw [Nat.mul_one, h, bAt_get hj]; rfl⟩
theorem push_tail (h : PM w B X ρ p) {A2 : Option Addr} {c2 B2 : Nat} {x : List UInt8} (o2 : OwnB w B2 TU8 A2 c2 x) (hf : ∀ a, A2 = some a → ¬ (PN ρ a.block ∨ X a.block)) (ok : PgOk { p with items := p.items ++ [x] }) {S : World → Prop} (hS : ∀ W, HB W ρ.P (pgC ρ p) TPg → S W) {K : World → Prop}
    (hX : ∀ k, X k → k < w.heap.size) (hK : ∀ w' ρ', ρ'.P = ρ.P → PM w' B X ρ' { p with items := p.items ++ [x] } → Below B w w' → K w') :
    alW w (.cells #[.slice A2 x.length c2] TB) fun B41 w42 => S w42 ∧ (
    Runs Tryd.prog (Builtin.append_ #[TBB, TBB] TBB #[.slice ρ.A p.items.length ρ.c, .slice (some (⟨B41, 0, Option.none⟩ : Addr)) 1 1]) w42 fun v44 w43 => ∃ (A45 : Option Addr) (n45 : Nat) (c45 : Nat), v44 = (.slice A45 n45 c45) ∧ (
    S w43 ∧ (
    stW w43 ((⟨ρ.P, 0, none⟩ : Addr).add 3) (.slice A45 n45 c45) fun w46 => K w46))) := by
  refine al_new fun w3 b e3 s3 hb3 g3 => ?_
  have h3 := h.below g3
  refine ⟨hS _ h3.hb, ?_⟩
  obtain ⟨ms, k1, k2⟩ := h3.rc
  have hml : ms.length = p.items.length := k2.1
  have hn := h.ok.n
  have o3 := o2.keep g3
  refine app_e RTs ES (by decide) k1 hml.symm (x := (A2, x.length, c2)) hb3 rfl h3.size (by omega) fun A4 c4 w4 o4 k4 f4 => ⟨_, _, _, rfl, ?_⟩
  have hb4 := h3.hb.keeps k4 h3.nA
  refine ⟨hS _ hb4, hb_st hb4 (j := 3) (by simp [pgC]) fun w5 q5 k5 => ?_⟩
  have hA4 : ∀ k, Ob (some A4) k → Ob ρ.A k ∨ w3.heap.size ≤ k := by
    rintro k ⟨a, ha, rfl⟩
    cases ha
    rcases f4 with q | q
    · exact .inl ⟨A4, q, rfl⟩
    · exact .inr q
  have nP : ¬ Ob (some A4) ρ.P := fun ho => by
    rcases hA4 _ ho with q | q
    · exact h3.nA q
    · have := h3.hb.lt; omega
  have o5 := o4.keeps k5 fun a ha e => nP ⟨a, ha, e⟩
  have kk : Keeps (PN ρ) w3 w5 := (k4.mono fun _ _ e => .inr e).trans (k5.mono fun _ _ e => .inl e)
  have s4 := k4.size
  have s5 := k5.size
  have its5 : ItsM w5 (fun k => (PN ρ k ∨ X k)) ms p.items := k2.keepsN kk fun k hk => .inl hk
  have new : ItM w5 (fun k => (PN ⟨ρ.P, some A4, c4⟩ k ∨ X k)) (A2, x.length, c2) x := by
    have nk : ∀ a, A2 = some a → ¬ PN ρ a.block := fun a ha hn => hf a ha (.inl hn)
    refine ⟨rfl, o2.le, RBk o3.reads kk nk, fun a ha => ⟨by have := (o2.block a ha).2; omega, ?_⟩, fun a ha => ?_⟩
    · rintro ((e | e) | e)
      · exact nk a ha (.inl e)
      · rcases hA4 _ e with q | q
        · exact nk a ha (.inr q)
        · have := (o2.block a ha).2; omega
      · exact hf a ha (.inr e)
    · obtain ⟨_, hh⟩ := o3
      rcases hh with ⟨hh, _⟩ | ⟨g, cap, cur, hv, _, hg, _⟩
      · injection hh with hh; rw [hh] at ha; cases ha
      · injection hv with hv
        have e : a.block = g := by rw [hv] at ha; cases ha; rfl
        exact ⟨cur, by rw [e]; exact HB.keeps hg kk (by rw [← e]; exact nk a ha)⟩
  have its6 : ItsM w5 (fun k => (PN ⟨ρ.P, some A4, c4⟩ k ∨ X k)) ms p.items := ⟨its5.1, fun j q1 q2 => by
    have q := its5.2 j q1 q2
    have qo := k2.2 j q1 q2
    refine ⟨q.n, q.c, q.rb, fun a ha => ⟨(q.a a ha).1, ?_⟩, q.ty⟩
    rintro ((e | e) | e)
    · exact (q.a a ha).2 (.inl (.inl e))
    · rcases hA4 _ e with q' | q'
      · exact (q.a a ha).2 (.inl (.inr q'))
      · have := (qo.a a ha).1; omega
    · exact (q.a a ha).2 (.inr e)⟩
  have fin := its6.ins new (i := ms.length) (Nat.le_refl _)
  rw [List.take_length, List.drop_length, hml, List.take_length, List.drop_length] at fin
  refine hK w5 ⟨ρ.P, some A4, c4⟩ rfl ⟨?_, h.lo, ⟨_, o5, fin⟩, ok⟩ ?_
  · show HB w5 ρ.P #[.int .i64 (p.lsn : Int), .int .u8 (p.kind.toNat : Int), .int .u32 (p.extra : Int), .slice (some A4) (p.items ++ [x]).length c4] TPg
    have e : (ms ++ [(A2, x.length, c2)]).length = (p.items ++ [x]).length := by rw [List.length_append, List.length_append, hml]; rfl
    rw [← e]; exact q5
  · exact (g3.mono h.size).trans (h3.bel kk)
theorem Parse_l2 {A : Option Addr} {c n : Nat} {b : List UInt8} (hr : Go.Dn.RB w0 A b) (hb : b.length = 512) (hc : 512 ≤ c) (hn : n ≤ 100) (hX : ∀ k, X k → k < w0.heap.size) (hB : w0.heap.size ≤ B) {K : Int → World → Prop} {Kg : World → Prop} (hKg : parseI b (18 + 2 * n) n 18 512 [] = none → ∀ w', Below w0.heap.size w0 w' → Kg w')
    {lsn ext : Nat} {kd : UInt8} (hK : ∀ w' ρ' its e, parseI b (18 + 2 * n) n 18 512 [] = some (its, e) → PM w' B X ρ' ⟨lsn, kd, ext, its⟩ → Below w0.heap.size w0 w' → 18 + 2 * n ≤ e → e ≤ 512 → ρ'.P = ρ.P → K (e : Int) w') :
    ∀ (m i e : Nat) (w : World) (ρ1 : RPg) (acc : List (List UInt8)), m + acc.length = n → i = 18 + 2 * acc.length → e + lensL acc = 512 → 18 + 2 * n ≤ e → ρ1.P = ρ.P → parseI b (18 + 2 * n) n 18 512 [] = parseI b (18 + 2 * n) m i e acc → PM w B X ρ1 ⟨lsn, kd, ext, acc⟩ → Below w0.heap.size w0 w →
      f_page_Parse.l2 (m + 1) A 512 c (⟨ρ.P, 0, none⟩ : Addr) (e : Int) ((18 + 2 * n : Nat) : Int) (i : Int) w K Kg := by
  intro m
  induction m with
  | zero =>
    intro i e w ρ1 acc hm hi he hat eP hp h hw
    unfold f_page_Parse.l2
    exact sel_f (by simp; omega) (hK w ρ1 acc e (hp.trans rfl) h hw hat (by omega) eP)
  | succ m ih =>
    intro i e w ρ1 acc hm hi he hat eP hp h hw
    have gd : Below w.heap.size w w.drew := (Below.refl _ _).drew
    have hwd := hw.trans (gd.mono hw.size)
    have hrd := hr.below hwd (Nat.le_refl _)
    obtain ⟨a, ea, hc1⟩ := rb_at hrd (j := i) (by omega)
    obtain ⟨a', ea', hc2⟩ := rb_at hrd (j := i + 1) (by omega)
    have b1 := (bAt b i).toNat_lt
    have b2 := (bAt b (i + 1)).toNat_lt
    unfold f_page_Parse.l2
    rw [show IntKind.i64.wrap ((i : Int) + 1) = ((i + 1 : Nat) : Int) by rw [w64_in (by omega)]; omega, show IntKind.i64.wrap ((i : Int) + 2) = ((i + 2 : Nat) : Int) by rw [w64_in (by omega)]; omega]
    refine sel_t (by simp; omega) (drW_intro (optB_some ea (req_intro (by simp; omega) ?_)))
    rw [Int.toNat_natCast, Int.toNat_natCast]
    refine ldI_intro hc1 (optB_some ea' (req_intro (by simp; omega) (ldI_intro hc2 ?_)))
    rw [borP _ _ b1 b2]
    rw [parseI] at hp
    obtain ⟨f, hf⟩ : ∃ f, (bAt b i).toNat + 256 * (bAt b (i + 1)).toNat = f := ⟨_, rfl⟩
    rw [hf] at hp ⊢
    by_cases q1 : e < f
    · exact sel_t (by simp; omega) (hKg (by rw [hp, if_pos (.inl q1)]) _ hwd)
    refine sel_f (by simp; omega) ?_
    by_cases q2 : f < 18 + 2 * n
    · exact sel_t (by simp; omega) (hKg (by rw [hp, if_pos (.inr (.inl q2))]) _ hwd)
    refine sel_f (by simp; omega) ?_
    rw [show IntKind.i64.wrap ((e : Int) - (f : Int)) = ((e - f : Nat) : Int) by rw [w64_in (by omega)]; omega]
    by_cases q3 : 200 < e - f
    · exact sel_t (by simp; omega) (hKg (by rw [hp, if_pos (.inr (.inr q3))]) _ hwd)
    refine sel_f (by simp; omega) ?_
    rw [if_neg (by omega)] at hp
    have gd2 : Below w.heap.size w w.drew.drew := gd.drew
    have hw2 := hw.trans (gd2.mono hw.size)
    have h2 := h.below gd2
    rw [← eP]
    refine drW_intro ⟨fun W => HB W ρ1.P (pgC ρ1 ⟨lsn, kd, ext, acc⟩) TPg, h2.hb, ⟨ρ1.A, acc.length, ρ1.c, fun W hW => (hW.cell 3).trans rfl, req_intro (by simp; omega) (req_intro (by simp; omega) ?_)⟩⟩
    rw [Int.toNat_natCast, Int.toNat_natCast]
    have rbx := rb_sl (f := f) (k := e - f) (hr.below hw2 (Nat.le_refl _)) (by omega : b.length ≤ c)
    have hxl : ((b.drop f).take (e - f)).length = e - f := by rw [List.length_take, List.length_drop]; omega
    refine (Clone_ok rbx hxl.symm (by omega)).mono ?_
    rintro _ w4 ⟨A4, c4, rfl, o4, z4, g4⟩
    have h4 := h2.below g4
    have hw4 := hw2.trans (g4.mono hw2.size)
    refine ⟨_, _, _, rfl, h4.hb, ?_⟩
    have hla : lensL (acc ++ [(b.drop f).take (e - f)]) = lensL acc + (e - f) := by rw [lensL_app]; show _ + ((b.drop f).take (e - f)).length = _; rw [hxl]
    have hok := h.ok
    refine push_tail h4 o4 (fun a ha => ?_) ⟨?_, fun y hy => ?_, ?_, hok.l, hok.e⟩ (fun W hW => hW) (fun k hk => Nat.lt_of_lt_of_le (hX k hk) hw4.size) fun w5 ρ5 e5 h5 g5 => ?_
    · have hb4 := o4.block a ha
      rintro (q | q)
      · have := (h2.lt _ q).1; omega
      · have := hX _ q; have := hw2.size; omega
    · show (acc ++ [_]).length ≤ 100
      rw [List.length_append, List.length_singleton]; omega
    · rcases List.mem_append.1 hy with hy | hy
      · exact hok.x y hy
      · rw [List.mem_singleton] at hy; subst hy; omega
    · show 18 + 2 * (acc ++ [_]).length + lensL (acc ++ [_]) ≤ 512
      rw [hla, List.length_append, List.length_singleton]; omega
    · rw [eP]
      refine ih (i + 2) f w5 ρ5 _ (by rw [List.length_append, List.length_singleton]; omega) (by rw [List.length_append, List.length_singleton]; omega) (by rw [hla]; omega) (by omega) (e5.trans eP) hp h5 (hw4.trans (g5.mono hB))
end
end Go.Proofs.YtifambgaekjilaaDoor.Rd
