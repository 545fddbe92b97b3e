/- Keys parsed, by the program and by the document. Conditions: none. -/
import Derived.Test.YtakgoekfnhkgaaaDoorKeI
namespace Go.Proofs.YtakgoekfnhkgaaaDoor.Rd
open Go.Dn Go.RowKit Go.Lib
set_option linter.unusedVariables false
set_option linter.unusedSimpArgs false
set_option maxRecDepth 100000
theorem bor_i64_nat (m n : Nat) (hm : m < 9223372036854775808) (hn : n < 9223372036854775808) : bor .i64 (m : Int) (n : Int) = ((m ||| n : Nat) : Int) := by
  unfold bor
  show IntKind.i64.wrap (((BitVec.ofInt 64 (m : Int)) ||| BitVec.ofInt 64 (n : Int)).toNat : Int) = _
  rw [BitVec.toNat_or, bv64 m (by omega), bv64 n (by omega), i64w]
  have := Nat.or_lt_two_pow (n := 63) (x := m) (y := n) hm hn
  omega
theorem bor_pow (k a b : Nat) (hb : b < 2 ^ k) (h : 2 ^ k * a + b < 9223372036854775808) : bor .i64 ((2 ^ k * a : Nat) : Int) (b : Int) = ((2 ^ k * a + b : Nat) : Int) := by
  rw [bor_i64_nat _ _ (by omega) (by omega), Nat.two_pow_add_eq_or_of_lt hb a]
theorem bor_four (a b c d : UInt8) : bor .i64 (bor .i64 (bor .i64 (IntKind.i64.wrap ((IntKind.i64.wrap (a.toNat : Int)) * 2 ^ 24)) (IntKind.i64.wrap ((IntKind.i64.wrap (b.toNat : Int)) * 2 ^ 16))) (IntKind.i64.wrap ((IntKind.i64.wrap (c.toNat : Int)) * 2 ^ 8))) (IntKind.i64.wrap (d.toNat : Int)) = (valB [a, b, c, d] : Int) := by
  have ha := a.toNat_lt
  have hb := b.toNat_lt
  have hc := c.toNat_lt
  have hd := d.toNat_lt
  have w1 : ∀ x : UInt8, IntKind.i64.wrap (x.toNat : Int) = (x.toNat : Int) := fun x => w64_in (by have := x.toNat_lt; omega)
  rw [w1, w1, w1, w1]
  rw [show IntKind.i64.wrap ((a.toNat : Int) * 2 ^ 24) = ((2 ^ 24 * a.toNat : Nat) : Int) by rw [w64_in (by omega)]; omega, show IntKind.i64.wrap ((b.toNat : Int) * 2 ^ 16) = ((2 ^ 16 * b.toNat : Nat) : Int) by rw [w64_in (by omega)]; omega, show IntKind.i64.wrap ((c.toNat : Int) * 2 ^ 8) = ((2 ^ 8 * c.toNat : Nat) : Int) by rw [w64_in (by omega)]; omega]
  rw [bor_pow 24 _ _ (by omega) (by omega)]
  rw [show 2 ^ 24 * a.toNat + 2 ^ 16 * b.toNat = 2 ^ 16 * (2 ^ 8 * a.toNat + b.toNat) by omega, bor_pow 16 _ _ (by omega) (by omega)]
  rw [show 2 ^ 16 * (2 ^ 8 * a.toNat + b.toNat) + 2 ^ 8 * c.toNat = 2 ^ 8 * (2 ^ 16 * a.toNat + 2 ^ 8 * b.toNat + c.toNat) by omega, bor_pow 8 _ _ (by omega) (by omega)]
  show _ = (((((0 * 256 + a.toNat) * 256 + b.toNat) * 256 + c.toNat) * 256 + d.toNat : Nat) : Int)
  omega
section
variable {w w0 : World} {A : Option Addr} {c : Nat} {l : List UInt8}
theorem take4 {l : List UInt8} (h : 4 ≤ l.length) : l.take 4 = [l[0], l[1], l[2], l[3]] := by
  match l, h with
  | a :: b :: c :: d :: r, _ => rfl
theorem id_ok (hr : Go.Dn.RB w A l) (h : 4 ≤ l.length) {n : Nat} (hn : n = l.length) : Calls Tryd.prog 41 #[.slice A n c] w fun e w' => e = .returned (.int .i64 (valB (l.take 4) : Int)) ∧ Below w.heap.size w w' := by
  apply f_keys_id.ok
  unfold f_keys_id.wp
  refine drW_intro ?_
  have gd : Below w.heap.size w w.drew := (Below.refl _ _).drew
  have hr' := hr.below gd (Nat.le_refl _)
  refine rb_ld (i := 0) hr' (by omega) rfl hn (rb_ld (i := 1) hr' (by omega) rfl hn (rb_ld (i := 2) hr' (by omega) rfl hn (rb_ld (i := 3) hr' (by omega) rfl hn ?_)))
  rw [bor_four, take4 h]
  exact ⟨rfl, gd⟩
theorem val_lt4 {b : List UInt8} (h : b.length ≤ 4) : valB b < 4294967296 := by
  have hv := valB_lt b
  have hp : 256 ^ b.length ≤ 256 ^ 4 := Nat.pow_le_pow_right (by decide) h
  have e : (256 : Nat) ^ 4 = 4294967296 := by decide
  omega
theorem value4_ok (hr : Go.Dn.RB w A l) {p : Nat} (h : p + 4 ≤ l.length) (hl : l.length ≤ 140737488355328) {n : Nat} (hn : n = l.length) : Calls Tryd.prog 42 #[.slice A n c, .int .i64 (p : Int)] w fun e w' => e = .returned (.int .i64 (valB ((l.drop p).take 4) : Int)) ∧ w' = w := by
  apply f_ref04_value4.ok
  unfold f_ref04_value4.wp
  have main : ∀ (m i : Nat), i + m = 4 → f_ref04_value4.l0 (m + 1) A n c (p : Int) (valB ((l.drop p).take i) : Int) ((p + i : Nat) : Int) w (fun (x3 : Int) (w4 : World) => ∀ _ : Fr, (Ending.returned (.int .i64 x3)) = .returned (.int .i64 (valB ((l.drop p).take 4) : Int)) ∧ w4 = w) := by
    have e4 : IntKind.i64.wrap ((p : Int) + 4) = ((p + 4 : Nat) : Int) := w64n (by omega) (by omega)
    intro m
    induction m with
    | zero =>
      intro i hi
      unfold f_ref04_value4.l0
      rw [e4]
      obtain rfl : i = 4 := by omega
      exact sel_f (by simp) fun _ => ⟨rfl, rfl⟩
    | succ m ih =>
      intro i hi
      unfold f_ref04_value4.l0
      rw [e4]
      refine sel_t (by simp; omega) (rb_ld (i := p + i) hr (by omega) rfl hn ?_)
      have hlt : i < (l.drop p).length := by rw [List.length_drop]; omega
      have hv := val_lt4 (b := (l.drop p).take i) (by rw [List.length_take]; omega)
      have hb := l[p + i].toNat_lt
      have e : IntKind.i64.wrap (IntKind.i64.wrap ((valB ((l.drop p).take i) : Int) * 256) + IntKind.i64.wrap (l[p + i].toNat : Int)) = ((valB ((l.drop p).take (i + 1)) : Nat) : Int) := by
        rw [List.take_succ_eq_append_getElem hlt, valB_snoc, List.getElem_drop, w64_in (x := (valB ((l.drop p).take i) : Int) * 256) (by omega), w64_in (x := (l[p + i].toNat : Int)) (by omega), w64_in (by omega)]
        omega
      rw [e, w64n (n := p + (i + 1)) (by omega) (by omega)]
      exact ih (i + 1) (by omega)
  exact ⟨5, main 4 0 rfl⟩
/-- what a key's first byte leads to -/
def sw (l : List UInt8) : Option (Bool × Nat × List UInt8) :=
  if l.length < 5 then none else
  match l with
  | k :: e :: r => if k = 1 ∨ k = 2 then (if r.length = 3 then some (decide (k = 2), valB (e :: r), []) else none)
      else if k = 3 then (if e.toNat ≤ 1 then (if isName (r.drop 4) = true then some (decide (e = 1), valB (r.take 4), r.drop 4) else none) else none) else none
  | _ => none
abbrev PR := Bool × Int × List UInt8 × Bool
def parseL (l : List UInt8) : PR := match sw l with
  | none => (false, 0, [], false)
  | some (e, v, nm) => if badId v then (false, 0, [], false) else (e, v, nm, true)
def prV (R : PR) : Value := .tuple #[.agg #[.bool R.1, .int .i64 R.2.1], .string ⟨R.2.2.1.toArray⟩, .bool R.2.2.2]
theorem Parse_j3 {B1 B3 : Nat} {e : Bool} {x : Int} {s : ByteArray} (h1 : HB w B1 (rfC false 0) TRf) (h3 : HB w B3 (rfC e x) TRf) (hne : B3 ≠ B1) {Kg0 : World → Prop} {Kr : ByteArray → Bool → World → Prop} (hb : badId x → Kg0 w) (hg : ¬ badId x → ∀ w', HB w' B1 (rfC e x) TRf → Keeps (fun k => k = B1) w w' → Kr s true w') :
    f_keys_Parse.j3 ⟨B1, 0, none⟩ ⟨B3, 0, none⟩ s w Kg0 Kr := by
  unfold f_keys_Parse.j3
  refine hb_ldI (j := 1) h3 rfl (badId_ok.mono ?_)
  rintro _ w ⟨rfl, rfl⟩
  refine ⟨_, rfl, ?_⟩
  by_cases q : badId x
  · exact sel_t (by simpa using q) (hb q)
  refine sel_f (by simpa using q) (hb_ldB0 h3 rfl (hb_ldI (j := 1) h3 rfl (hb_st0 h1 (by decide) fun w4 h4 k4 => hb_st (j := 1) h4 (by simp [rfC]) fun w5 h5 k5 => hg q w5 h5 (k4.trans k5))))
theorem u8_ne {x y : UInt8} (h : x ≠ y) : ((x.toNat : Int) == (y.toNat : Int)) = false := by
  rw [beq_eq_false_iff_ne]; intro e
  exact h (UInt8.toNat_inj.1 (by omega))
theorem u8_dec (x y : UInt8) : ((x.toNat : Int) == (y.toNat : Int)) = decide (x = y) := by
  by_cases h : x = y
  · subst h; simp
  · rw [u8_ne h, decide_eq_false h]
theorem rb_cons {k e : UInt8} {r : List UInt8} (hr : Go.Dn.RB w A (k :: e :: r)) (hc : (k :: e :: r).length ≤ c) : Go.Dn.RB w (slA A 1 c 1) (e :: r) ∧ Go.Dn.RB w (slA A 2 c 1) r := by
  constructor
  · have := rb_sl (f := 1) (k := (e :: r).length) hr hc
    rw [List.drop_succ_cons, List.drop_zero, List.take_length] at this; exact this
  · have := rb_sl (f := 2) (k := r.length) hr hc
    rw [List.drop_succ_cons, List.drop_succ_cons, List.drop_zero, List.take_length] at this; exact this
theorem Parse_j2 {B3 : Nat} {k e : UInt8} {r : List UInt8} (hl : l = k :: e :: r) (hr : Go.Dn.RB w A l) (h5 : 5 ≤ l.length) (hc : l.length ≤ c) (hm : l.length ≤ 140737488355328) (h3 : HB w B3 (rfC false 0) TRf) (hA : ∀ a, A = some a → a.block ≠ B3) {bt : Bool} (hbt : bt = decide (k = 1 ∨ k = 2))
    {Kg0 : World → Prop} {Kn : ByteArray → World → Prop} (hN : sw l = none → ∀ w', Keeps (fun k => k = B3) w w' → Kg0 w') (hS : ∀ e v nm, sw l = some (e, v, nm) → ∀ w', Keeps (fun k => k = B3) w w' → HB w' B3 (rfC e v) TRf → Kn ⟨nm.toArray⟩ w') :
    f_keys_Parse.j2 A l.length c ⟨B3, 0, none⟩ (⟨#[]⟩ : ByteArray) (k.toNat : Int) bt w Kg0 Kn := by
  subst hl
  unfold f_keys_Parse.j2
  unfold sw at hN hS
  rw [if_neg (by omega)] at hN hS
  simp only at hN hS
  have hlen : (k :: e :: r).length = r.length + 2 := rfl
  by_cases q : k = 1 ∨ k = 2
  · rw [if_pos q] at hN hS
    rw [decide_eq_true q] at hbt
    refine sel_t hbt (drW_intro ?_)
    have gd : Below w.heap.size w w.drew := (Below.refl _ _).drew
    have hr' := hr.below gd (Nat.le_refl _)
    have h3' := h3.below gd
    obtain ⟨w1, hw1⟩ : ∃ w1, w.drew = w1 := ⟨_, rfl⟩
    rw [hw1] at gd hr' h3' ⊢
    obtain ⟨a, rfl, hca⟩ := hr' 0 (by omega)
    refine ⟨fun w' => w'.cell? (a.add 0) = some (byteV k), hca, optB_some rfl (req_intro (by simp; omega) ⟨_, fun w' hw' => hw', req_intro (by simp; omega) ?_⟩)⟩
    have hrc := (rb_cons hr' hc).1
    refine (id_ok hrc (by rw [List.length_cons]; omega) (by simp)).mono ?_
    rintro _ w2 ⟨rfl, g2⟩
    have hca2 : w2.cell? (a.add 0) = some (byteV k) := (Keeps.of_below (S := XF) g2).cell hca id
    refine ⟨_, rfl, hca2, hb_st0 (h3'.below g2) (by decide) fun w4 h4 k4 => hb_st (j := 1) h4 (by simp [rfC]) fun w5 h5' k5 => ?_⟩
    have kk : Keeps (fun k => k = B3) w w5 := (((Keeps.of_below gd).trans (.of_below g2)).trans k4).trans k5
    by_cases q5 : r.length = 3
    · rw [if_pos q5] at hN hS
      refine sel_f (by rw [hlen, q5]; rfl) (hS _ _ _ rfl w5 kk ?_)
      have e4 : (e :: r).take 4 = e :: r := List.take_of_length_le (by rw [List.length_cons]; omega)
      rw [e4] at h5'
      have e5 : ((k.toNat : Int) == 2) = decide (k = 2) := u8_dec k 2
      rw [e5] at h5'
      exact h5'
    · rw [if_neg q5] at hN
      exact sel_t (by rw [hlen]; simp; omega) (hN rfl w5 kk)
  rw [if_neg q] at hN hS
  rw [decide_eq_false q] at hbt
  refine sel_f hbt ?_
  by_cases q3 : k = 3
  case neg =>
    rw [if_neg q3] at hN
    exact sel_f (by have := u8_ne q3; simpa using this) (hN rfl w (.refl _ _))
  rw [if_pos q3] at hN hS
  refine sel_t (by subst q3; rfl) ?_
  by_cases q6 : r.length = 3
  · refine sel_t (by rw [hlen]; simp; omega) (hN ?_ w (.refl _ _))
    have : r.drop 4 = [] := List.drop_of_length_le (by omega)
    rw [this]
    split
    · exact if_neg (by decide)
    · rfl
  refine sel_f (by rw [hlen]; simp; omega) (rb_ld (i := 1) hr (by omega) rfl rfl ?_)
  by_cases q1 : e.toNat ≤ 1
  case neg =>
    rw [if_neg q1] at hN
    exact sel_t (by simp; omega) (hN rfl w (.refl _ _))
  rw [if_pos q1] at hN hS
  refine sel_f (by simp; omega) (drW_intro ?_)
  have gd : Below w.heap.size w w.drew := (Below.refl _ _).drew
  have hr' := hr.below gd (Nat.le_refl _)
  have h3' := h3.below gd
  obtain ⟨w1, hw1⟩ : ∃ w1, w.drew = w1 := ⟨_, rfl⟩
  rw [hw1] at gd hr' h3' ⊢
  obtain ⟨a, hAa, hca⟩ := hr' 0 (by omega)
  have hx6 : (k :: e :: r).drop 6 = r.drop 4 := rfl
  let Gd : World → Prop := fun a => HB a B3 (rfC (decide (e = 1)) (valB (r.take 4) : Nat)) TRf
  let Ex : World → Prop := fun a => ∃ cs : Array Value, cs.size = 2 ∧ HB a B3 cs TRf
  let G : World → World → Prop := fun a b => Keeps (fun k => k = B3) a b ∧ (Gd a → Gd b) ∧ (Ex a → Ex b)
  have Gb : ∀ {a b : World}, Below a.heap.size a b → G a b := fun g => ⟨.of_below g, fun h => HB.below h g, fun ⟨cs, hs, h⟩ => ⟨cs, hs, HB.below h g⟩⟩
  have rd : ∀ {b : World}, G w1 b → Go.Dn.RB b A (k :: e :: r) := fun g => RBk hr' g.1 fun a ha => hA a ha
  refine ⟨f_keys_Parse.h11_ok _ _ _ _, G, fun i v b => match i with
      | 1 => v = .pointer (some (a.add 1))
      | 2 => v = .int .u8 (e.toNat : Int)
      | 5 => v = .slice (slA A 2 c 1) ((k :: e :: r).length - 2) (c - 2)
      | 6 => v = .int .i64 (valB (r.take 4) : Nat)
      | 9 => v = .slice (slA A 6 c 1) ((k :: e :: r).length - 6) (c - 6)
      | 10 => v = .string ⟨(r.drop 4).toArray⟩
      | 11 => Gd b
      | _ => True, fun b => ⟨.refl _ _, id, id⟩, fun a b c h k => ⟨h.1.trans k.1, fun x => k.2.1 (h.2.1 x), fun x => k.2.2 (h.2.2 x)⟩, ?_, ⟨?_, ?_, ?_, ?_, ?_, ?_, ?_, trivial⟩, ?_⟩
  · intro i v a b g1 g2 h
    split at h
    · exact h
    · exact h
    · exact h
    · exact h
    · exact h
    · exact h
    · exact g2.2.1 h
    · trivial
  · intro _ b gb
    subst hAa
    exact optB_some rfl (req_intro (by simp; omega) ⟨⟨.refl _ _, id, id⟩, rfl⟩)
  · intro _ b gb ae h
    have h : Value.pointer (some ae) = .pointer (some (a.add 1)) := h
    injection h with h; injection h with h
    subst h
    obtain ⟨a', ha', hc'⟩ := rd gb 1 (by omega)
    rw [hAa] at ha'; injection ha' with ha'; subst ha'
    exact ldI_intro hc' ⟨⟨.refl _ _, id, id⟩, rfl⟩
  · intro _ b gb
    exact req_intro (by simp; omega) ⟨⟨.refl _ _, id, id⟩, rfl⟩
  · intro _ b gb Ae ne ce h
    have h : Value.slice Ae ne ce = .slice (slA A 2 c 1) ((k :: e :: r).length - 2) (c - 2) := h
    injection h with h1 h2 h3
    subst h1; subst h2; subst h3
    refine (id_ok (rb_cons (rd gb) hc).2 (by omega) (by simp)).mono ?_
    rintro _ b' ⟨rfl, g⟩
    exact ⟨_, rfl, Gb g, rfl⟩
  · intro _ b gb
    exact req_intro (by simp; omega) ⟨⟨.refl _ _, id, id⟩, rfl⟩
  · intro _ b gb Ae ne ce h
    have h : Value.slice Ae ne ce = .slice (slA A 6 c 1) ((k :: e :: r).length - 6) (c - 6) := h
    injection h with h1 h2 h3
    subst h1; subst h2; subst h3
    have r6 := rb_sl (f := 6) (k := (r.drop 4).length) (rd gb) hc
    rw [hx6, List.take_length] at r6
    exact conv_strA r6 (by rw [List.length_drop]; simp) ⟨_, rfl, ⟨.refl _ _, id, id⟩, rfl⟩
  · intro _ b gb ae1 _ xe2 h2 Ae5 ne5 ce5 _ xe6 h6
    have h2 : Value.int .u8 xe2 = .int .u8 (e.toNat : Int) := h2
    have h6 : Value.int .i64 xe6 = .int .i64 (valB (r.take 4) : Nat) := h6
    injection h2 with _ h2
    injection h6 with _ h6
    subst h2; subst h6
    obtain ⟨cs, hcs, hb⟩ := gb.2.2 ⟨_, rfl, h3'⟩
    refine hb_st0 hb (by omega) fun b1 hb1 k1 => hb_st (j := 1) hb1 (by simp; omega) fun b2 hb2 k2 => ?_
    have e5 : ((e.toNat : Int) == 1) = decide (e = 1) := u8_dec e 1
    rw [e5] at hb2
    have hfin : HB b2 B3 (rfC (decide (e = 1)) (valB (r.take 4) : Nat)) TRf := by
      match cs, hcs, hb2 with
      | ⟨[u, v]⟩, _, hb2 => exact hb2
    exact ⟨⟨k1.trans k2, fun _ => hfin, fun _ => ⟨_, rfl, hfin⟩⟩, hfin⟩
  · intro b gb ae1 _ xe2 _ Ae5 ne5 ce5 _ xe6 _ Ae9 ne9 ce9 _ se10 h10 h11
    have h10 : Value.string se10 = .string ⟨(r.drop 4).toArray⟩ := h10
    injection h10 with h10
    subst h10
    have esl : sL (⟨(r.drop 4).toArray⟩ : ByteArray) = r.drop 4 := by simp [sL]
    refine (Name_ok (by rw [esl, List.length_drop]; omega)).mono ?_
    rintro _ b' ⟨rfl, g⟩
    rw [esl]
    have kk : Keeps (fun k => k = B3) w b' := ((Keeps.of_below gd).trans gb.1).trans (.of_below g)
    refine ⟨_, rfl, ?_⟩
    by_cases qn : isName (r.drop 4) = true
    · rw [if_pos qn] at hS
      exact sel_f (by rw [qn]; rfl) (hS _ _ _ rfl b' kk (HB.below (cs := rfC (decide (e = 1)) (valB (r.take 4) : Nat)) h11 g))
    · rw [if_neg qn] at hN
      exact sel_t (by simpa using qn) (hN rfl b' kk)
theorem Parse_ok (hr : Go.Dn.RB w A l) (hc : l.length ≤ c) (hm : l.length ≤ 140737488355328) :
    Calls Tryd.prog 16 #[.slice A l.length c] w fun e w' => e = .returned (prV (parseL l)) ∧ Below w.heap.size w w' := by
  apply f_keys_Parse.ok
  unfold f_keys_Parse.wp f_keys_Parse.s0
  refine al_new fun w1 B1 e1 z1 h1 g1 => al_new fun w2 B3 e3 z3 h3 g3 => ?_
  have h13 := h1.below g3
  have g13 : Below w.heap.size w w2 := g1.trans (g3.mono g1.size)
  have hr2 := hr.below g13 (Nat.le_refl _)
  have hne : B3 ≠ B1 := by omega
  obtain ⟨R, hR⟩ : ∃ R, parseL l = R := ⟨_, rfl⟩
  rw [hR]
  unfold parseL at hR
  let Kr : ByteArray → Bool → World → Prop := fun (s74 : ByteArray) (b75 : Bool) (w76 : World) => ∀ _ : Fr,
    ldB w76 (⟨B1, 0, Option.none⟩ : Addr) fun b77 =>
    ldI w76 ((⟨B1, 0, Option.none⟩ : Addr).add 1) .i64 fun x78 =>
    (Ending.returned (.tuple #[.agg #[.bool b77, .int .i64 x78], .string s74, .bool b75])) = .returned (prV R) ∧ Below w.heap.size w w76
  have fin : ∀ w' e x nm ok, HB w' B1 (rfC e x) TRf → Below w.heap.size w w' → R = (e, x, nm, ok) → Kr ⟨nm.toArray⟩ ok w' := fun w' e x nm ok h b hR _ => by
    subst hR
    exact hb_ldB0 h rfl (hb_ldI (j := 1) h rfl ⟨rfl, b⟩)
  have nope : ∀ w', HB w' B1 (rfC false 0) TRf → Below w.heap.size w w' → R = (false, 0, [], false) → ∃ k : Nat, f_keys_Parse.g0 k ⟨B1, 0, none⟩ w' Kr := fun w' h b hR => ⟨1, by
    unfold f_keys_Parse.g0 f_keys_Parse.j1
    exact hb_st0 h (by decide) fun w3 h3 k3 => hb_st (j := 1) h3 (by simp [rfC]) fun w4 h4 k4 => fin w4 false 0 [] false h4 (b.trans ((k3.trans k4).below b.size fun k hk e => by omega)) hR⟩
  by_cases q5 : l.length < 5
  · have e : sw l = none := by unfold sw; rw [if_pos q5]
    rw [e] at hR
    exact sel_t (by simp; omega) (nope w2 h13 g13 hR.symm)
  obtain ⟨k, e, r, rfl⟩ : ∃ k e r, l = k :: e :: r := by
    match l, q5 with
    | [], h => simp at h
    | [_], h => simp at h
    | k :: e :: r, _ => exact ⟨k, e, r, rfl⟩
  have hlt : ∀ a, A = some a → a.block ≠ B3 := fun a ha => by have := rb_lt hr (by simp) a ha; have := g1.size; omega
  have hlt1 : ∀ a, A = some a → a.block ≠ B1 := fun a ha => by have := rb_lt hr (by simp) a ha; omega
  have bel : ∀ {w'}, Keeps (fun k => k = B3) w2 w' → Below w.heap.size w w' := fun kk => g13.trans (kk.below g13.size fun k hk e => by have := g1.size; omega)
  have mid : f_keys_Parse.j2 A (k :: e :: r).length c (⟨B3, 0, Option.none⟩ : Addr) (⟨#[]⟩ : ByteArray) (k.toNat : Int) (decide (k = 1 ∨ k = 2)) w2 (fun (w48 : World) => ∀ _ : Fr, ∃ k49 : Nat, f_keys_Parse.g0 k49 ⟨B1, 0, none⟩ w48 Kr) (fun (s50 : ByteArray) (w51 : World) => ∀ _ : Fr,
      f_keys_Parse.j3 ⟨B1, 0, none⟩ (⟨B3, 0, Option.none⟩ : Addr) s50 w51 (fun (w60 : World) => ∀ _ : Fr, ∃ k61 : Nat, f_keys_Parse.g0 k61 ⟨B1, 0, none⟩ w60 Kr) (fun (s62 : ByteArray) (b63 : Bool) (w64 : World) => ∀ _ : Fr, Kr s62 b63 w64)) := by
    refine Parse_j2 rfl hr2 (by omega) hc hm h3 hlt rfl ?_ ?_
    · intro hs w' kk _
      rw [hs] at hR
      exact nope w' (h13.keeps kk fun e => hne e.symm) (bel kk) hR.symm
    · intro e' v nm hs w' kk h3' _
      rw [hs] at hR
      simp only at hR
      have h1' := h13.keeps kk (fun e => hne e.symm)
      refine Parse_j3 h1' h3' hne (fun hb _ => ?_) (fun hb w'' h'' k'' _ => ?_)
      · rw [if_pos hb] at hR
        exact nope w' h1' (bel kk) hR.symm
      · rw [if_neg hb] at hR
        have b' := bel kk
        exact fin w'' e' v nm true h'' (b'.trans (k''.below b'.size fun k hk e => by omega)) hR.symm
  refine sel_f (by simp; simp at q5; omega) (rb_ld (i := 0) hr2 (by simp) rfl rfl ?_)
  have e0 : (k :: e :: r)[0] = k := rfl
  rw [e0]
  by_cases q1 : k = 1
  · have eb : ((k.toNat : Int) == 1) = decide (k = 1 ∨ k = 2) := by rw [decide_eq_true (.inl q1), q1]; rfl
    have eb' : decide (k = 1 ∨ k = 2) = true := decide_eq_true (.inl q1)
    rw [eb]
    exact sel_t eb' mid
  · have eb : ((k.toNat : Int) == 1) = false := u8_ne q1
    have eb2 : ((k.toNat : Int) == 2) = decide (k = 1 ∨ k = 2) := by
      have : ((k.toNat : Int) == 2) = decide (k = 2) := u8_dec k 2
      rw [this, decide_eq_decide]
      exact ⟨.inr, fun h => h.resolve_left q1⟩
    rw [eb, eb2]
    exact sel_f rfl mid
theorem leaf {B1 : Nat} {e : Bool} {x : Int} {s : ByteArray} {ok : Bool} (h : HB w B1 (rfC false 0) TRf) {R : PR} {wz : World} (hQ : ∀ w', Keeps (fun k => k = B1) w w' → (Ending.returned (.tuple #[.agg #[.bool e, .int .i64 x], .string s, .bool ok])) = .returned (prV R) ∧ Below wz.heap.size wz w') :
    stW w (⟨B1, 0, none⟩ : Addr) (.bool e) fun w3 => stW w3 ((⟨B1, 0, none⟩ : Addr).add 1) (.int .i64 x) fun w4 => ldB w4 (⟨B1, 0, none⟩ : Addr) fun b => ldI w4 ((⟨B1, 0, none⟩ : Addr).add 1) .i64 fun y => (Ending.returned (.tuple #[.agg #[.bool b, .int .i64 y], .string s, .bool ok])) = .returned (prV R) ∧ Below wz.heap.size wz w4 :=
  hb_st0 h (by decide) fun w3 h3 k3 => hb_st (j := 1) h3 (by simp [rfC]) fun w4 h4 k4 => hb_ldB0 h4 rfl (hb_ldI (j := 1) h4 rfl (hQ w4 (k3.trans k4)))
theorem RParse_ok (hr : Go.Dn.RB w A l) (hc : l.length ≤ c) (hm : l.length ≤ 140737488355328) :
    Calls Tryd.prog 17 #[.slice A l.length c] w fun e w' => e = .returned (prV (parseL l)) ∧ Below w.heap.size w w' := by
  apply f_ref04_Parse.ok
  unfold f_ref04_Parse.wp
  refine al_new fun w1 B1 e1 z1 h1 g1 => ?_
  have hr1 := hr.below g1 (Nat.le_refl _)
  obtain ⟨R, hR⟩ : ∃ R, parseL l = R := ⟨_, rfl⟩
  rw [hR]
  unfold parseL at hR
  have bel : ∀ {a w' : World}, Below w.heap.size w a → Keeps (fun k => k = B1) a w' → Below w.heap.size w w' := fun b kk => b.trans (kk.below b.size fun k hk e => by omega)
  have nope : ∀ {a}, HB a B1 (rfC false 0) TRf → Below w.heap.size w a → R = (false, 0, [], false) → ∀ w', Keeps (fun k => k = B1) a w' → (Ending.returned (.tuple #[.agg #[.bool false, .int .i64 0], .string (⟨#[]⟩ : ByteArray), .bool false])) = .returned (prV R) ∧ Below w.heap.size w w' := fun h b hR w' kk => by
    subst hR
    exact ⟨rfl, bel b kk⟩
  by_cases q5 : l.length = 5
  · obtain ⟨k, e, r, rfl⟩ : ∃ k e r, l = k :: e :: r := by
      match l, q5 with
      | k :: e :: r, _ => exact ⟨k, e, r, rfl⟩
    have hrl : r.length = 3 := by simpa using q5
    have h4 : ((k :: e :: r).drop 1).take 4 = e :: r := List.take_of_length_le (by rw [List.drop_succ_cons, List.drop_zero, List.length_cons]; omega)
    have hv := value4_ok (c := c) (p := 1) hr1 (by omega) hm rfl
    rw [h4] at hv
    unfold sw at hR
    rw [if_neg (by omega)] at hR
    simp only [hrl] at hR
    have good : ∀ {w' : World}, (k = 1 ∨ k = 2) → ¬ badId (valB (e :: r)) → Below w.heap.size w w' → (Ending.returned (.tuple #[.agg #[.bool ((k.toNat : Int) == 2), .int .i64 (valB (e :: r))], .string (⟨#[]⟩ : ByteArray), .bool true])) = .returned (prV R) ∧ Below w.heap.size w w' := fun hk hb b => by
      rw [if_pos hk] at hR
      simp only [if_true] at hR
      rw [if_neg hb] at hR
      subst hR
      rw [show ((k.toNat : Int) == 2) = decide (k = 2) from u8_dec k 2]
      exact ⟨rfl, b⟩
    have badv : (k = 1 ∨ k = 2) → badId (valB (e :: r)) → R = (false, 0, [], false) := fun hk hb => by
      rw [if_pos hk] at hR
      simp only [if_true] at hR
      rw [if_pos hb] at hR
      exact hR.symm
    refine sel_t (by rw [q5]; rfl) (rb_ld (i := 0) hr1 (by simp) rfl rfl ?_)
    have e0 : (k :: e :: r)[0] = k := rfl
    rw [e0]
    by_cases q1 : k = 1
    · refine sel_t (by rw [q1]; rfl) (hv.mono ?_)
      rintro _ w1 ⟨rfl, rfl⟩
      refine ⟨_, rfl, ?_⟩
      by_cases qa : 1 ≤ (valB (e :: r) : Int)
      · by_cases qb : (valB (e :: r) : Int) ≤ 2147483647
        · refine sel_t (by simpa using qa) (sel_t (by simpa using qb) (rb_ld (i := 0) hr1 (by simp) rfl rfl (leaf h1 fun w' kk => good (.inl q1) (by unfold badId; omega) (bel g1 kk))))
        · exact sel_t (by simpa using qa) (sel_f (by simpa using qb) (leaf h1 fun w' kk => nope h1 g1 (badv (.inl q1) (by unfold badId; omega)) w' kk))
      · exact sel_f (by simpa using qa) (leaf h1 fun w' kk => nope h1 g1 (badv (.inl q1) (by unfold badId; omega)) w' kk)
    refine sel_f (u8_ne q1) (rb_ld (i := 0) hr1 (by simp) rfl rfl ?_)
    rw [e0]
    by_cases q2 : k = 2
    · refine sel_t (by rw [q2]; rfl) (hv.mono ?_)
      rintro _ w1 ⟨rfl, rfl⟩
      refine ⟨_, rfl, ?_⟩
      by_cases qa : 1 ≤ (valB (e :: r) : Int)
      · by_cases qb : (valB (e :: r) : Int) ≤ 2147483647
        · refine sel_t (by simpa using qa) (sel_t (by simpa using qb) (rb_ld (i := 0) hr1 (by simp) rfl rfl (leaf h1 fun w' kk => good (.inr q2) (by unfold badId; omega) (bel g1 kk))))
        · exact sel_t (by simpa using qa) (sel_f (by simpa using qb) (leaf h1 fun w' kk => nope h1 g1 (badv (.inr q2) (by unfold badId; omega)) w' kk))
      · exact sel_f (by simpa using qa) (leaf h1 fun w' kk => nope h1 g1 (badv (.inr q2) (by unfold badId; omega)) w' kk)
    refine sel_f (u8_ne q2) (sel_f (by rw [q5]; rfl) (leaf h1 fun w' kk => nope h1 g1 ?_ w' kk))
    rw [if_neg (by rintro (h | h) <;> contradiction)] at hR
    have hd : r.drop 4 = [] := List.drop_of_length_le (by omega)
    rw [hd] at hR
    have hnm : isName [] = false := rfl
    rw [hnm] at hR
    rw [← hR]
    split <;> rename_i hh
    · rfl
    · exfalso
      split at hh
      · split at hh
        · cases hh
        · cases hh
      · cases hh
  refine sel_f (by simp; omega) ?_
  by_cases q6 : 6 < l.length
  case neg =>
    refine sel_f (by simp; omega) (leaf h1 fun w' kk => nope h1 g1 ?_ w' kk)
    rw [← hR]
    unfold sw
    by_cases ql : l.length < 5
    · rw [if_pos ql]
    rw [if_neg ql]
    obtain ⟨k, e, r, rfl⟩ : ∃ k e r, l = k :: e :: r := by
      match l, ql with
      | [], h => simp at h
      | [_], h => simp at h
      | k :: e :: r, _ => exact ⟨k, e, r, rfl⟩
    have hrl : ¬ r.length = 3 := by simp at q5; omega
    have hd : r.drop 4 = [] := List.drop_of_length_le (by simp at q6; omega)
    simp only [hrl, hd]
    have hnm : isName [] = false := rfl
    rw [hnm]
    split <;> rename_i hh
    · rfl
    · exfalso
      split at hh
      · cases hh
      · split at hh
        · split at hh
          · cases hh
          · cases hh
        · cases hh
  obtain ⟨k, e, r, rfl⟩ : ∃ k e r, l = k :: e :: r := by
    match l, q6 with
    | k :: e :: r, _ => exact ⟨k, e, r, rfl⟩
  have hlen : (k :: e :: r).length = r.length + 2 := rfl
  unfold sw at hR
  rw [if_neg (by omega)] at hR
  have hr3 : ¬ r.length = 3 := by omega
  simp only [hr3] at hR
  refine sel_t (by simp; omega) (rb_ld (i := 0) hr1 (by simp) rfl rfl ?_)
  have e0 : (k :: e :: r)[0] = k := rfl
  have e1' : (k :: e :: r)[1] = e := rfl
  rw [e0]
  by_cases q3 : k = 3
  case neg =>
    refine sel_f (u8_ne q3) (leaf h1 fun w' kk => nope h1 g1 ?_ w' kk)
    rw [← hR, if_neg q3]
    split <;> rename_i hh
    · rfl
    · exfalso
      split at hh
      · cases hh
      · cases hh
  subst q3
  rw [if_neg (by decide)] at hR
  simp only [if_true] at hR
  refine sel_t rfl (rb_ld (i := 1) hr1 (by simp) rfl rfl ?_)
  rw [e1']
  by_cases q1 : e.toNat ≤ 1
  case neg =>
    rw [if_neg q1] at hR
    exact sel_f (by simp; omega) (leaf h1 fun w' kk => nope h1 g1 hR.symm w' kk)
  rw [if_pos q1] at hR
  refine sel_t (by simp; omega) ((value4_ok (c := c) (p := 2) hr1 (by omega) hm rfl).mono ?_)
  rintro _ w1 ⟨rfl, rfl⟩
  have h4 : ((3 :: e :: r).drop 2).take 4 = r.take 4 := rfl
  rw [h4]
  refine ⟨_, rfl, req_intro (by simp; omega) ?_⟩
  have hx6 : ((3 : UInt8) :: e :: r).drop 6 = r.drop 4 := rfl
  have r6 := rb_sl (f := 6) (k := (r.drop 4).length) hr1 hc
  rw [hx6, List.take_length] at r6
  refine conv_strA r6 (by rw [List.length_drop]; simp) ⟨_, rfl, ?_⟩
  have esl : sL (⟨(r.drop 4).toArray⟩ : ByteArray) = r.drop 4 := by simp [sL]
  have badv : badId (valB (r.take 4)) → R = (false, 0, [], false) := fun hb => by
    rw [← hR]
    split <;> rename_i hh
    · rfl
    · split at hh
      · injection hh with hh; injection hh with _ hh; injection hh with hh _
        subst hh
        rw [if_pos hb]
      · cases hh
  by_cases qa : 1 ≤ (valB (r.take 4) : Int)
  case neg => exact sel_f (by simpa using qa) (leaf h1 fun w' kk => nope h1 g1 (badv (by unfold badId; omega)) w' kk)
  by_cases qb : (valB (r.take 4) : Int) ≤ 2147483647
  case neg => exact sel_t (by simpa using qa) (sel_f (by simpa using qb) (leaf h1 fun w' kk => nope h1 g1 (badv (by unfold badId; omega)) w' kk))
  refine sel_t (by simpa using qa) (sel_t (by simpa using qb) ((RName_ok (by rw [esl, List.length_drop]; omega)).mono ?_))
  rintro _ w1 ⟨rfl, rfl⟩
  rw [esl]
  refine ⟨_, rfl, ?_⟩
  by_cases qn : isName (r.drop 4) = true
  · rw [if_pos qn] at hR
    simp only at hR
    rw [if_neg (by unfold badId; omega)] at hR
    subst hR
    refine sel_t qn (rb_ld (i := 1) hr1 (by simp) rfl rfl ?_)
    rw [e1', show ((e.toNat : Int) == 1) = decide (e = 1) from u8_dec e 1]
    exact leaf h1 fun w' kk => ⟨rfl, bel g1 kk⟩
  · rw [if_neg qn] at hR
    exact sel_f (by simpa using qn) (leaf h1 fun w' kk => nope h1 g1 hR.symm w' kk)
end
end Go.Proofs.YtakgoekfnhkgaaaDoor.Rd
