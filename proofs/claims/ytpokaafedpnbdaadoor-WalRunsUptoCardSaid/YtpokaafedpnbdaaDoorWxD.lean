/- wal: load, take, Open · wal: load and take · wal: take and Open · wal: Open · wal: Append · wal: Flush · wal: Records -/
import Derived.Test.YtpokaafedpnbdaaDoorWxC
/-! wal: load, take, Open. Conditions: sectors of bytes. -/
namespace Go.Proofs.YtpokaafedpnbdaaDoor.Rd
open Go.Dn Go.RowKit Go.Shelf
set_option linter.unusedVariables false
set_option linter.unusedSimpArgs false
set_option maxRecDepth 100000
/-! ### sectors of bytes -/
def bySec (s : Sec) : Prop := ∀ x ∈ s.1, 0 ≤ x ∧ x < 256
def unI (l : List Int) : List UInt8 := l.map fun x => UInt8.ofNat x.toNat
theorem toI_unI {l : List Int} (h : ∀ x ∈ l, 0 ≤ x ∧ x < 256) : toI (unI l) = l := by
  unfold toI unI
  rw [List.map_map]
  conv => rhs; rw [← List.map_id l]
  refine List.map_congr_left fun x hx => ?_
  have := h x hx
  simp only [Function.comp, id]
  rw [UInt8.toNat_ofNat']
  omega
theorem unI_toI (l : List UInt8) : unI (toI l) = l := by
  unfold toI unI
  rw [List.map_map]
  conv => rhs; rw [← List.map_id l]
  refine List.map_congr_left fun x hx => ?_
  simp only [Function.comp, id, Int.toNat_natCast]
  exact UInt8.toNat.inj (by rw [UInt8.toNat_ofNat']; have := x.toNat_lt; omega)
theorem toI_by (l : List UInt8) : ∀ x ∈ toI l, 0 ≤ x ∧ x < 256 := by
  intro x hx
  obtain ⟨b, _, rfl⟩ := List.mem_map.1 hx
  have := b.toNat_lt
  omega
structure BD (d : Dk) : Prop where
  s : ∀ s ∈ d.safe, bySec s
  p : ∀ p ∈ d.pend, bySec p.2
theorem z0_by : bySec z0 := fun x hx => by
  have := List.eq_of_mem_replicate hx
  omega
/-- what a sector holds -/
def hB (d : Dk) (i : Int) : List UInt8 := unI (hasS d i).1
theorem lk_mem' : ∀ {m : List (Int × Sec)} {i : Int} {s : Sec}, lk m i = some s → ∃ p, p ∈ m ∧ p.2 = s
  | [], i, s, h => by cases h
  | q :: m, i, s, h => by
    unfold lk at h
    split at h
    · injection h with h
      exact ⟨q, List.mem_cons_self, h⟩
    · obtain ⟨p, hp, e⟩ := lk_mem' h
      exact ⟨p, List.mem_cons_of_mem _ hp, e⟩
theorem BD.has {d : Dk} (h : BD d) (i : Int) : bySec (hasS d i) := by
  unfold hasS
  cases hp : lk d.pend i with
  | some s =>
    obtain ⟨p, hm, rfl⟩ := lk_mem' hp
    exact h.p p hm
  | none =>
    show bySec (d.safe.getD i.toNat z0)
    rw [List.getD_eq_getElem?_getD]
    by_cases hi : i.toNat < d.safe.length
    · rw [List.getElem?_eq_getElem hi]; exact h.s _ (List.getElem_mem hi)
    · rw [List.getElem?_eq_none (by omega)]; exact z0_by
theorem hB_len (d : Dk) (i : Int) : (hB d i).length = 512 := by simp [hB, unI, (hasS d i).2]
theorem BD.toIs {d : Dk} (h : BD d) (i : Int) : toI (hB d i) = (hasS d i).1 := toI_unI (h.has i)
/-! ### what Open makes of the sectors -/
structure Ld where
  run : Nat
  most : Nat
  stream : List UInt8
  op : Bool
def ldRun (b : List UInt8) : Nat := if (parseL b).2.2 then (parseL b).1 else 0
def ldStep (s : Ld) (i : Nat) (b : List UInt8) : Ld :=
  let r0 := if i = 0 then ldRun b else s.run
  let o := s.op && ((parseL b).2.2 && (ldRun b == r0))
  ⟨r0, max s.most (ldRun b), if o then s.stream ++ (parseL b).2.1 else s.stream, o && ((parseL b).2.1.length == 498)⟩
def loadL (f : Nat → List UInt8) : Nat → Ld
  | 0 => ⟨0, 0, [], true⟩
  | n + 1 => ldStep (loadL f n) n (f n)
theorem restP_len (U : Nat) (d : List UInt8) : (restP U d).2.1.length ≤ 498 ∧ (restP U d).1 ≤ 274877906944 := by
  unfold restP
  split
  · exact ⟨Nat.zero_le _, Nat.zero_le _⟩
  · rename_i h
    refine ⟨?_, by show U ≤ _; omega⟩
    show ((d.drop 10).take (lenP d)).length ≤ 498
    rw [List.length_take]; omega
theorem parseL_len (b : List UInt8) : (parseL b).2.1.length ≤ 498 ∧ (parseL b).1 ≤ 274877906944 := by
  unfold parseL
  split
  · exact restP_len _ _
  · exact ⟨Nat.zero_le _, Nat.zero_le _⟩
theorem ldRun_le (b : List UInt8) : ldRun b ≤ 274877906944 := by
  unfold ldRun; split
  · exact (parseL_len b).2
  · exact Nat.zero_le _
theorem loadL_le (f : Nat → List UInt8) : ∀ n, (loadL f n).run ≤ 274877906944 ∧ (loadL f n).most ≤ 274877906944 ∧ (loadL f n).stream.length ≤ n * 498
  | 0 => ⟨Nat.zero_le _, Nat.zero_le _, Nat.zero_le _⟩
  | n + 1 => by
    obtain ⟨h1, h2, h3⟩ := loadL_le f n
    have h4 := ldRun_le (f n)
    have h5 := (parseL_len (f n)).1
    refine ⟨?_, ?_, ?_⟩
    · show (if n = 0 then ldRun (f n) else (loadL f n).run) ≤ _
      split <;> omega
    · show max (loadL f n).most (ldRun (f n)) ≤ _
      omega
    · have : ∀ o : Bool, (if o = true then (loadL f n).stream ++ (parseL (f n)).2.1 else (loadL f n).stream).length ≤ (n + 1) * 498 := by
        intro o
        cases o
        · simp only [Bool.false_eq_true, if_false]; omega
        · simp only [if_true, List.length_append]; omega
      exact this _
def ldLg (l : Lg) (s : Ld) : Lg := { l with run := s.run, most := s.most, stream := s.stream }
section
variable {w w' : World} {B B1 : Nat} {r : RD} {d : Dk} {ρ : RL} {l : Lg}
theorem j3_ok {wz : World} {x : Nat} (h : LM w B r ρ l) {K : World → Prop} (hk : ∀ w', LM w' B r ρ { l with most := max l.most x } → Keeps (LN ρ) w w' → K w') :
    f_wal_Log_load.j3 (⟨ρ.L, 0, none⟩ : Addr) (x : Int) w K := by
  unfold f_wal_Log_load.j3
  refine hb_ldI (j := 4) h.hb rfl (hb_st (j := 4) h.hb (by simp [lgC]) fun w1 h1 k1 => hk w1 (h.cells k1 ?_ rfl rfl) (k1.mono fun _ _ e => .inl e))
  have e : (if (x : Int) > (l.most : Int) then (x : Int) else (l.most : Int)) = ((max l.most x : Nat) : Int) := by split <;> omega
  rw [e] at h1
  exact h1
theorem parse_at {w : World} {b : Nat} {t : TypeId} {d : Dk} (hd : BD d) {i : Int} (h : HB w b (secV (hasS d i)) t) : Go.Dn.RB w (some ⟨b, 0, none⟩) (hB d i) := fun j hj => by
  refine ⟨_, rfl, ?_⟩
  rw [HB.cell h]
  have hj' : j < 512 := by rwa [hB_len] at hj
  have e : (hasS d i).1 = toI (hB d i) := (hd.toIs i).symm
  have e2 : (secV (hasS d i))[j]? = (toI (hB d i))[j]?.map bV := by
    unfold secV secL
    rw [e]; simp
  rw [e2, List.getElem?_eq_getElem (by rw [toI_len]; exact hj)]
  simp [toI, byteV, bV]
/-- what one round makes of the log -/
theorem j2_ok {A : Option Addr} {c i : Nat} {b : List UInt8} {s : Ld} {l0 : Lg} {x : Nat} (hx : x = ldRun b) (h : LM w B r ρ { l0 with run := if i = 0 then ldRun b else s.run, most := s.most, stream := s.stream }) (hr : Go.Dn.RB w A (parseL b).2.1) (hA : ∀ a, A = some a → ¬ LN ρ a.block) (h0 : A = none → c = 0) (hB : B ≤ w.heap.size) (hsl : s.stream.length ≤ 100000)
    {K : Bool → World → Prop} (hk : ∀ ρ' w', ρ'.L = ρ.L → LM w' B r ρ' (ldLg l0 (ldStep s i b)) → (∀ k, LN ρ' k → LN ρ k ∨ w.heap.size ≤ k) → Keeps (LN ρ) w w' → K (ldStep s i b).op w') :
    f_wal_Log_load.j2 (⟨ρ.L, 0, none⟩ : Addr) s.op (x : Int) A (parseL b).2.1.length c (parseL b).2.2 w K := by
  subst hx
  obtain ⟨r0, hr0⟩ : ∃ r0, (if i = 0 then ldRun b else s.run) = r0 := ⟨_, rfl⟩
  rw [hr0] at h
  have plain : (s.op && ((parseL b).2.2 && (ldRun b == r0))) = false → f_wal_Log_load.j3 (⟨ρ.L, 0, none⟩ : Addr) (ldRun b : Int) w (fun w22 => ∀ _ : Fr, K false w22) := fun ho => by
    refine j3_ok (wz := w) h fun w' h' k' _ => ?_
    have e1 : ldStep s i b = ⟨r0, max s.most (ldRun b), s.stream, false⟩ := by
      unfold ldStep; simp only [hr0, ho]; rfl
    have := hk ρ w' rfl (by rw [e1]; exact h') (fun _ => .inl) k'
    rw [e1] at this
    exact this
  unfold f_wal_Log_load.j2
  cases ho : s.op with
  | false => exact sel_f rfl (plain (by rw [ho]; rfl))
  | true =>
    refine sel_t rfl ?_
    cases hp : (parseL b).2.2 with
    | false => exact sel_f rfl (plain (by rw [hp]; simp))
    | true =>
      refine sel_t rfl (hb_ldI (j := 3) h.hb (x := (r0 : Int)) rfl ?_)
      by_cases he : ldRun b = r0
      · subst he
        refine sel_t (by simp) (hb_ldS (j := 5) h.hb (A := ρ.S) (n := s.stream.length) (c := ρ.sc) rfl ?_)
        have pl := (parseL_len b).1
        refine app_b h.st rfl hr rfl h0 hB (by show s.stream.length + _ ≤ _; omega) fun A' c' w1 o1 k1 f1 => ⟨_, _, _, rfl, ?_⟩
        obtain ⟨n1, n2, n3⟩ := h.nn
        have hb1 := h.hb.keeps k1 n1
        refine hb_st (j := 5) hb1 (by simp [lgC]) fun w2 q2 k2 => ?_
        obtain ⟨ms, m1, m2⟩ := h.rc
        have hA' : ∀ a, A' = some a → a.block ≠ ρ.L := fun a ha e => by
          rcases f1 a ha with f | f
          · exact n1 ⟨a, f, e⟩
          · have := h.hb.lt; omega
        have L2 : LM w2 B r ⟨ρ.L, A', c', ρ.R, ρ.rc⟩ { l0 with run := ldRun b, most := s.most, stream := s.stream ++ (parseL b).2.1 } := by
          refine ⟨q2, h.lo, OwnB.keepsB o1 k2 hA', ms, (m1.keeps k1 fun a ha hk => n3 _ hk ⟨a, ha, rfl⟩).keeps k2 fun a ha e => n2 ⟨a, ha, e⟩, ?_⟩
          have m3 : RsM w (fun k => (LN ρ k ∨ FD r k) ∨ Ob A' k) ms l0.recs := m2.out fun k hk hn => by
            rcases hn with hn | ⟨a, ha, e⟩
            · exact hn
            · rcases f1 a ha with f | f
              · exact .inl (.inr (.inl ⟨a, f, e⟩))
              · omega
          have m4 := (m3.keeps k1 fun k hk => .inl (.inl (.inr (.inl hk)))).keeps k2 fun k hk => .inl (.inl (.inl hk))
          exact m4.out fun k _ hn => by
            rcases hn with (hn | hn | hn) | hn
            · exact .inl (.inl (.inl hn))
            · exact .inr hn
            · exact .inl (.inl (.inr (.inr hn)))
            · exact .inl (.inr hn)
        refine j3_ok (wz := w) L2 fun w3 h3 k3 _ => ?_
        have e1 : ldStep s i b = ⟨ldRun b, max s.most (ldRun b), s.stream ++ (parseL b).2.1, (parseL b).2.1.length == 498⟩ := by
          unfold ldStep; simp only [hr0, ho, hp, beq_self_eq_true, Bool.true_and, if_true]
        have := hk ⟨ρ.L, A', c', ρ.R, ρ.rc⟩ w3 rfl (by rw [e1]; exact h3) ?_ ?_
        · rw [e1] at this
          have e2 : (((parseL b).2.1.length : Int) == (498 : Int)) = ((parseL b).2.1.length == 498) := by
            rw [Bool.eq_iff_iff]; simp; omega
          rw [e2]
          exact this
        · rintro k (e | ⟨a, ha, e⟩ | hk)
          · exact .inl (.inl e)
          · rcases f1 a ha with f | f
            · exact .inl (.inr (.inl ⟨a, f, e⟩))
            · exact .inr (by omega)
          · exact .inl (.inr (.inr hk))
        · have k12 : Keeps (LN ρ) w w2 := (k1.mono fun _ _ hk => .inr (.inl hk)).trans (k2.mono fun _ _ e => .inl e)
          refine k12.trans' k3 fun k hk hn => ?_
          rcases hn with e | ⟨a, ha, e⟩ | hn
          · exact .inl e
          · rcases f1 a ha with f | f
            · exact .inr (.inl ⟨a, f, e⟩)
            · omega
          · exact .inr (.inr hn)
      · have : ¬ ((ldRun b : Int) = (r0 : Int)) := by omega
        refine sel_f (by simpa using this) ?_
        have e2 : ((ldRun b : Int) == (r0 : Int)) = false := by simpa using this
        rw [e2]
        exact plain (by rw [hp]; simp [he])
end
end Go.Proofs.YtpokaafedpnbdaaDoor.Rd

/-! wal: load and take. Conditions: sectors of bytes, the power on. -/
namespace Go.Proofs.YtpokaafedpnbdaaDoor.Rd
open Go.Dn Go.RowKit Go.Shelf
set_option linter.unusedVariables false
set_option linter.unusedSimpArgs false
set_option maxRecDepth 100000
section
variable {w w' : World} {B B1 : Nat} {r : RD} {d : Dk} {ρ : RL} {l : Lg}
def secF (d : Dk) (first : Nat) (i : Nat) : List UInt8 := hB d ((first + i : Nat) : Int)
theorem load_l0 {w0 : World} {l0 : Lg} (hd : BD d) (hoff : d.off = false) (hfc : l0.first + l0.count ≤ d.safe.length) (hc : l0.count ≤ 16) {ρ0 : RL} {K : World → Prop} {Kr : Int → World → Prop}
    (hK : ∀ ρ' w', ρ'.L = ρ0.L → DM w' B1 r d → LM w' B r ρ' (ldLg l0 (loadL (secF d l0.first) l0.count)) → (∀ k, LN ρ' k → LN ρ0 k ∨ w0.heap.size ≤ k) → Keeps (LN ρ0) w0 w' → K w') (hBB : B ≤ w0.heap.size) :
    ∀ (m i : Nat) (w : World) (ρ : RL), m + i = l0.count → ρ.L = ρ0.L → DM w B1 r d → LM w B r ρ (ldLg l0 (loadL (secF d l0.first) i)) → (∀ k, LN ρ k → LN ρ0 k ∨ w0.heap.size ≤ k) → Keeps (LN ρ0) w0 w →
      f_wal_Log_load.l0 (m + 1) (⟨ρ0.L, 0, none⟩ : Addr) (loadL (secF d l0.first) i).op (l0.count : Int) (i : Int) w K Kr := by
  intro m
  induction m with
  | zero =>
    intro i w ρ hi eL h hl hn hk
    have : i = l0.count := by omega
    subst this
    unfold f_wal_Log_load.l0
    exact sel_f (by simp) (hK ρ w eL h hl hn hk)
  | succ m ih =>
    intro i w ρ hi eL h hl hn hk
    have hsl := h.sl
    unfold f_wal_Log_load.l0
    rw [← eL]
    have g0 := (Below.refl w.heap.size w).drew
    refine sel_t (by simp; omega) (drW_intro (hb_ldP0 (hl.below g0).hb rfl (hb_ldI (j := 1) (hl.below g0).hb (x := (l0.first : Int)) rfl ?_)))
    rw [show IntKind.i64.wrap ((l0.first : Int) + (i : Int)) = ((l0.first + i : Nat) : Int) by rw [w64_in (by omega)]; omega]
    refine (Read_ok (h.below g0) _).mono ?_
    rintro _ w1 ⟨⟨A1, n1, c1, x1, rfl, hcase⟩, g1⟩
    have g1' : Below w.heap.size w w1 := g0.trans g1
    rcases hcase with ⟨q, _⟩ | ⟨_, q, _⟩ | ⟨_, _, _, rfl, rfl, rfl, b, rfl, hb, hbk⟩
    · rw [hoff] at q; cases q
    · omega
    refine ⟨_, _, _, _, rfl, sel_f rfl ?_⟩
    refine (parse_ok (parse_at hd hbk) (hB_len _ _) (Nat.le_refl _)).mono ?_
    rintro _ w2 ⟨A2, c2, rfl, hc2, hr2, ha2, hz2, g2⟩
    have g2' : Below w.heap.size w w2 := g1'.trans (g2.mono g1'.size)
    have hl2 := hl.below g2'
    have h2 := h.below g2'
    have hsz := g1'.size
    have hf : hB d ((l0.first + i : Nat) : Int) = secF d l0.first i := rfl
    rw [hf] at hc2 hr2 ⊢
    have ll := loadL_le (secF d l0.first) i
    have hll : (loadL (secF d l0.first) i).stream.length ≤ 100000 := by
      have : i * 498 ≤ 16 * 498 := Nat.mul_le_mul_right _ (by omega)
      omega
    have hA2 : ∀ a, A2 = some a → ¬ LN ρ a.block := fun a ha hN => by
      have := ha2 a ha
      have := (hl.lt _ hN).1
      omega
    have hBw : B ≤ w2.heap.size := Nat.le_trans (Nat.le_trans hBB hk.size) g2'.size
    -- the rest of the round, whichever the run
    have rest : ∀ x : Nat, x = ldRun (secF d l0.first i) → f_wal_Log_load.j1 (⟨ρ.L, 0, none⟩ : Addr) (loadL (secF d l0.first) i).op (i : Int) (x : Int) A2 (parseL (secF d l0.first i)).2.1.length c2 (parseL (secF d l0.first i)).2.2 w2 (fun b29 w30 => ∀ _ : Fr, f_wal_Log_load.l0 (m + 1) (⟨ρ.L, 0, none⟩ : Addr) b29 (l0.count : Int) (IntKind.i64.wrap ((i : Int) + 1)) w30 K Kr) := by
      intro x hx
      have fin : ∀ w3, LM w3 B r ρ { l0 with run := if i = 0 then ldRun (secF d l0.first i) else (loadL (secF d l0.first) i).run, most := (loadL (secF d l0.first) i).most, stream := (loadL (secF d l0.first) i).stream } → Keeps (LN ρ) w2 w3 →
          f_wal_Log_load.j2 (⟨ρ.L, 0, none⟩ : Addr) (loadL (secF d l0.first) i).op (x : Int) A2 (parseL (secF d l0.first i)).2.1.length c2 (parseL (secF d l0.first i)).2.2 w3 (fun b27 w28 => ∀ _ : Fr, ∀ _ : Fr, f_wal_Log_load.l0 (m + 1) (⟨ρ.L, 0, none⟩ : Addr) b27 (l0.count : Int) (IntKind.i64.wrap ((i : Int) + 1)) w28 K Kr) := by
        intro w3 hl3 k3
        refine j2_ok hx hl3 (RBk hr2 k3 hA2) hA2 hz2 (Nat.le_trans hBw k3.size) hll fun ρ' w4 eL' hl4 hn4 k4 _ _ => ?_
        rw [show IntKind.i64.wrap ((i : Int) + 1) = ((i + 1 : Nat) : Int) by rw [w64_in (by omega)]; omega, eL]
        have kk : Keeps (LN ρ) w w4 := ((Keeps.of_below g2').trans k3).trans k4
        refine ih (i + 1) w4 ρ' (by omega) (eL'.trans eL) (hl.dm h kk) hl4 (fun k hk' => ?_) (hk.trans' kk fun k hk' hn' => ?_)
        · rcases hn4 k hk' with q | q
          · exact hn k q
          · exact .inr (by have := hk.size; have := g2'.size; have := k3.size; omega)
        · rcases hn k hn' with q | q
          · exact q
          · omega
      unfold f_wal_Log_load.j1
      by_cases h0 : i = 0
      · subst h0
        refine sel_t rfl (hb_st (j := 3) hl2.hb (by simp [lgC]) fun w3 q3 k3 => fin w3 ?_ (k3.mono fun _ _ e => .inl e))
        rw [if_pos rfl, ← hx]
        exact hl2.cells k3 q3 rfl rfl
      · refine sel_f (by simp; omega) (fin w2 ?_ (.refl _ _))
        rw [if_neg h0]
        exact hl2
    refine ⟨_, _, _, _, _, rfl, ?_⟩
    cases hp : (parseL (secF d l0.first i)).2.2 with
    | true =>
      have := rest (parseL (secF d l0.first i)).1 (by unfold ldRun; rw [hp]; rfl)
      rw [hp] at this
      exact sel_f rfl this
    | false =>
      have := rest 0 (by unfold ldRun; rw [hp]; rfl)
      rw [hp] at this
      exact sel_t rfl this
theorem load_ok {l0 : Lg} (h : DM w B1 r d) (hl : LM w B r ρ l0) (e0 : l0.run = 0 ∧ l0.most = 0 ∧ l0.stream = []) (hd : BD d) (hoff : d.off = false) (hfc : l0.first + l0.count ≤ d.safe.length) (hc : l0.count ≤ 16) (hBB : B ≤ w.heap.size) :
    Calls Tryd.prog 40 #[.pointer (some ⟨ρ.L, 0, none⟩)] w fun e w' => e = .returned (.int .i64 (if (loadL (secF d l0.first) l0.count).run = 0 then 6 else 0)) ∧ DM w' B1 r d ∧ (∃ ρ', ρ'.L = ρ.L ∧ LM w' B r ρ' (ldLg l0 (loadL (secF d l0.first) l0.count)) ∧ ∀ k, LN ρ' k → LN ρ k ∨ w.heap.size ≤ k) ∧ Keeps (LN ρ) w w' := by
  obtain ⟨e1, e2, e3⟩ := e0
  apply f_wal_Log_load.ok
  unfold f_wal_Log_load.wp
  have hl0 : LM w B r ρ (ldLg l0 (loadL (secF d l0.first) 0)) := by
    have : ldLg l0 (loadL (secF d l0.first) 0) = l0 := by
      cases l0; simp only at e1 e2 e3; subst e1 e2 e3; rfl
    rw [this]; exact hl
  refine hb_ldI (j := 2) hl.hb (x := (l0.count : Int)) rfl ⟨l0.count + 1, ?_⟩
  refine load_l0 (l0 := l0) hd hoff hfc hc (fun ρ' w' eL h' hl' hn' k' _ => ?_) hBB l0.count 0 w ρ rfl rfl h hl0 (fun _ => .inl) (.refl _ _)
  refine hb_ldI (j := 3) (x := ((loadL (secF d l0.first) l0.count).run : Int)) (eL ▸ hl'.hb) rfl ?_
  by_cases hr : (loadL (secF d l0.first) l0.count).run = 0
  · rw [if_pos hr]; exact sel_t (by simp [hr]) ⟨rfl, h', ⟨ρ', eL, hl', hn'⟩, k'⟩
  · rw [if_neg hr]; exact sel_f (by simpa using hr) ⟨rfl, h', ⟨ρ', eL, hl', hn'⟩, k'⟩
end
end Go.Proofs.YtpokaafedpnbdaaDoor.Rd

/-! wal: take and Open. Conditions: sectors of bytes, the power on. -/
namespace Go.Proofs.YtpokaafedpnbdaaDoor.Rd
open Go.Dn Go.RowKit Go.Shelf
set_option linter.unusedVariables false
set_option linter.unusedSimpArgs false
set_option maxRecDepth 100000
theorem slA_0 (A : Option Addr) (m z : Nat) : slA A 0 m z = A := by
  unfold slA; split
  · rfl
  · cases A with
    | none => rfl
    | some a => rw [Option.map_some, Nat.zero_mul]; rfl
theorem textL_some {S : List UInt8} {a : Nat} (h : (textL S ((a : Int) + 1) 1200).2.2 = 0) : (textL S ((a : Int) + 1) 1200).1.length ≤ 1200 ∧ a + 1 < (textL S ((a : Int) + 1) 1200).2.1 ∧ (textL S ((a : Int) + 1) 1200).2.1 ≤ S.length := by
  unfold textL at h ⊢
  simp only at h ⊢
  split at h
  · rename_i h1; exact absurd h h1
  rename_i h1
  rw [if_neg h1]
  split at h
  · cases h
  rename_i h2
  rw [if_neg h2]
  split at h
  · cases h
  rename_i h3
  rw [if_neg h3]
  have hg : a + 1 < (getL S ((a : Int) + 1)).2.1 ∧ (getL S ((a : Int) + 1)).2.1 ≤ S.length := by
    have h1' : (getL S ((a : Int) + 1)).2.2 = 0 := by simpa using h1
    unfold getL at h1' ⊢
    split at h1'
    · cases h1'
    split at h1'
    · cases h1'
    rename_i q1 q2
    rw [if_neg q1, if_neg q2]
    simp only at h1' ⊢
    split at h1'
    · rename_i q3
      rw [if_pos q3]
      have e : ((a : Int) + 1).toNat = a + 1 := by omega
      rw [e] at q3 ⊢
      rcases getR_form (S.drop (a + 1)) 0 0 (by decide) (by decide) with q | q
      · obtain ⟨_, _, q4, q5, _⟩ := q
        rw [List.length_drop] at q4
        show a + 1 < a + 1 + _ ∧ a + 1 + _ ≤ _
        omega
      · exact absurd q3 q.1
    · rename_i q3; exact absurd h1' q3
  refine ⟨?_, ?_, ?_⟩
  · show (List.take _ _).length ≤ 1200
    rw [List.length_take]; omega
  · show a + 1 < _ + _
    omega
  · show _ + _ ≤ _
    omega
/-- the record at a place -/
def takeL (run : Nat) (S : List UInt8) (a : Nat) : Option (Rc × Nat) :=
  if a < S.length then (if bAt S a = 0 then none else if (textL S ((a : Int) + 1) 1200).2.2 = 0 then some (⟨(run * 16777216 + a : Nat), ((bAt S a).toNat : Int), (textL S ((a : Int) + 1) 1200).1⟩, (textL S ((a : Int) + 1) 1200).2.1) else none) else none
theorem takeL_some {run : Nat} {S : List UInt8} {a : Nat} {q : Rc × Nat} (h : takeL run S a = some q) : a + 1 < q.2 ∧ q.2 ≤ S.length ∧ q.1.body.length ≤ 1200 := by
  unfold takeL at h
  split at h
  · split at h
    · cases h
    · split at h
      · rename_i h3
        injection h with h; subst h
        obtain ⟨q1, q2, q3⟩ := textL_some h3
        exact ⟨q2, q3, q1⟩
      · cases h
  · cases h
/-- the records from a place on, and where they end -/
def recsL (run : Nat) (S : List UInt8) : Nat → Nat → List Rc × Nat
  | 0, a => ([], a)
  | k + 1, a => match takeL run S a with
    | none => ([], a)
    | some q => (q.1 :: (recsL run S k q.2).1, (recsL run S k q.2).2)
theorem recsL_le (run : Nat) (S : List UInt8) : ∀ k a, a ≤ S.length → (recsL run S k a).2 ≤ S.length ∧ a ≤ (recsL run S k a).2 ∧ (recsL run S k a).1.length + a ≤ (recsL run S k a).2
  | 0, a, h => ⟨h, Nat.le_refl _, by simp [recsL]⟩
  | k + 1, a, h => by
    unfold recsL
    cases ht : takeL run S a with
    | none => exact ⟨h, Nat.le_refl _, by simp⟩
    | some q =>
      obtain ⟨q1, q2, _⟩ := takeL_some ht
      obtain ⟨h1, h2, h3⟩ := recsL_le run S k q.2 q2
      exact ⟨h1, by show a ≤ (recsL run S k q.2).2; omega, by show (q.1 :: (recsL run S k q.2).1).length + a ≤ (recsL run S k q.2).2; rw [List.length_cons]; omega⟩
def openLg (d : Dk) (first count : Nat) : Lg :=
  ⟨first, count, (loadL (secF d first) count).run, (loadL (secF d first) count).most, (loadL (secF d first) count).stream.take (recsL (loadL (secF d first) count).run (loadL (secF d first) count).stream ((loadL (secF d first) count).stream.length + 1) 0).2,
    (recsL (loadL (secF d first) count).run (loadL (secF d first) count).stream ((loadL (secF d first) count).stream.length + 1) 0).2, (recsL (loadL (secF d first) count).run (loadL (secF d first) count).stream ((loadL (secF d first) count).stream.length + 1) 0).1, true, false⟩
theorem OwnB.take {w : World} {B : Nat} {A : Option Addr} {c : Nat} {l : List UInt8} (h : OwnB w B TU8 A c l) (k : Nat) : OwnB w B TU8 A c (l.take k) := by
  obtain ⟨hl, h⟩ := h
  refine ⟨by simp, ?_⟩
  rcases h with ⟨h1, h0⟩ | ⟨g, cap, cur, hv, hg, hh, hn, hm, hs, ht⟩
  · injection h1 with e1 e2 e3
    have : l = [] := List.length_eq_zero_iff.1 e2
    subst this
    subst e1 e3
    exact .inl ⟨by simp, by simp⟩
  · injection hv with e1 e2 e3
    refine .inr ⟨g, cap, cur, by rw [e1, e3], hg, hh, ?_, hm, hs, ?_⟩
    · rw [List.length_take]; omega
    · rw [List.length_take, Nat.mul_one]
      have ht' : cur.toList.take l.length = l.map byteV := by simpa using ht
      rw [List.map_take, ← ht', List.take_take]
section
variable {w w' : World} {B B1 : Nat} {r : RD} {d : Dk} {ρ : RL} {l : Lg}
/-- a record more behind the log's: what the append and the store come to -/
theorem putRec {A : Option Addr} {n c : Nat} {rc : Rc} {b : Nat} {wr : World} (hl : LM wr B r ρ l) (hs : l.recs.length ≤ 100000) (hb : HB wr b (eR ⟨rc.lsn, rc.kind, A, n, c⟩).toArray TRec) (hr : RcM wr (fun k => LN ρ k ∨ FD r k) ⟨rc.lsn, rc.kind, A, n, c⟩ rc) (hB : B ≤ wr.heap.size)
    {ty : TypeId} {S : World → Prop} {K : Option Addr → Nat → Nat → World → Prop} (hS : ∀ w', Keeps (Ob ρ.R) wr w' → S w')
    (hK : ∀ A' c' w', S w' → Keeps (Ob ρ.R) wr w' → (∀ {w''}, HB w'' ρ.L (lgC r ⟨ρ.L, ρ.S, ρ.sc, A', c'⟩ { l with recs := l.recs ++ [rc] }) TLog → Keeps (fun k => k = ρ.L) w' w'' → LM w'' B r ⟨ρ.L, ρ.S, ρ.sc, A', c'⟩ { l with recs := l.recs ++ [rc] } ∧ Keeps (LN ρ) wr w'' ∧ ∀ k, LN ⟨ρ.L, ρ.S, ρ.sc, A', c'⟩ k → LN ρ k ∨ wr.heap.size ≤ k) → K A' (l.recs ++ [rc]).length c' w') :
    Runs Tryd.prog (Builtin.append_ #[28, 28] ty #[.slice ρ.R l.recs.length ρ.rc, .slice (some (⟨b, 0, Option.none⟩ : Addr)) 1 1]) wr fun v w' => ∃ (A' : Option Addr) (n' : Nat) (c' : Nat), v = (.slice A' n' c') ∧ S w' ∧ K A' n' c' w' := by
  obtain ⟨n1, n2, n3⟩ := hl.nn
  obtain ⟨ms, m1, m2⟩ := hl.rc
  refine app_e RTr ER (by decide) m1 m2.1.symm hb rfl hB (by rw [m2.1]; omega) fun A' c' w1 o1 k1 f1 => ?_
  have el : (ms ++ [(⟨rc.lsn, rc.kind, A, n, c⟩ : MR)]).length = (l.recs ++ [rc]).length := by simp [m2.1]
  rw [el]
  refine ⟨_, _, _, rfl, hS w1 k1, hK (some A') c' w1 (hS w1 k1) k1 fun {w2} q2 k2 => ?_⟩
  have nA' : A'.block ≠ ρ.L := fun e => by
    rcases f1 with f | f
    · exact n2 ⟨A', f, e⟩
    · have := hl.hb.lt; omega
  have m3 : RsM wr (fun k => (LN ρ k ∨ FD r k) ∨ Ob (some A') k) (ms ++ [⟨rc.lsn, rc.kind, A, n, c⟩]) (l.recs ++ [rc]) := (m2.snoc hr).out fun k hk hn => by
    rcases hn with hn | ⟨a, ha, e⟩
    · exact hn
    · injection ha with ha; subst ha
      rcases f1 with f | f
      · exact .inl (.inr (.inr ⟨A', f, e⟩))
      · omega
  have m4 := (m3.keeps k1 fun k hk => .inl (.inl (.inr (.inr hk)))).keeps k2 fun k hk => .inl (.inl (.inl hk))
  refine ⟨⟨q2, hl.lo, OwnB.keepsB (OwnB.keepsB hl.st k1 fun a ha hk => n3 _ ⟨a, ha, rfl⟩ hk) k2 fun a ha e => n1 ⟨a, ha, e⟩, _, o1.keeps k2 fun a ha e => by injection ha with ha; subst ha; exact nA' e, m4.out fun k _ hn => ?_⟩, ?_, ?_⟩
  · rcases hn with (hn | hn | hn) | hn
    · exact .inl (.inl (.inl hn))
    · exact .inl (.inl (.inr (.inl hn)))
    · exact .inr hn
    · exact .inl (.inr hn)
  · exact (k1.mono fun _ _ hk => .inr (.inr hk)).trans (k2.mono fun _ _ e => .inl e)
  · rintro k (e | hk | ⟨a, ha, e⟩)
    · exact .inl (.inl e)
    · exact .inl (.inr (.inl hk))
    · injection ha with ha; subst ha
      rcases f1 with f | f
      · exact .inl (.inr (.inr ⟨A', f, e⟩))
      · exact .inr (by omega)
/-- take: the record at a place -/
theorem take_ok (hd : DM w B1 r d) (hl : LM w B r ρ l) (hs : l.stream.length ≤ 100000 ∧ l.recs.length ≤ 100000 ∧ l.run ≤ 274877906944) (hBB : B ≤ w.heap.size) {a : Nat} (ha : a ≤ l.stream.length) :
    Calls Tryd.prog 41 #[.pointer (some ⟨ρ.L, 0, none⟩), .int .i64 (a : Int)] w fun e w' =>
      ∃ nx ok, e = .returned (.tuple #[.int .i64 (nx : Nat), .bool ok]) ∧ DM w' B1 r d ∧ Keeps (LN ρ) w w' ∧
      match takeL l.run l.stream a with
      | none => ok = false ∧ LM w' B r ρ l
      | some q => ok = true ∧ nx = q.2 ∧ ∃ ρ', ρ'.L = ρ.L ∧ LM w' B r ρ' { l with recs := l.recs ++ [q.1] } ∧ ∀ k, LN ρ' k → LN ρ k ∨ w.heap.size ≤ k := by
  obtain ⟨hs1, hs2, hs3⟩ := hs
  apply f_wal_Log_take.ok
  unfold f_wal_Log_take.wp
  refine hb_ldS (j := 5) hl.hb (A := ρ.S) (n := l.stream.length) (c := ρ.sc) rfl ?_
  by_cases h1 : a < l.stream.length
  · refine sel_f (by simp; omega) (hb_ldS (j := 5) hl.hb (A := ρ.S) (n := l.stream.length) (c := ρ.sc) rfl ?_)
    have rb := hl.st.reads
    obtain ⟨p, hp, hc⟩ := rb a h1
    have eb : l.stream[a] = bAt l.stream a := (bAt_get h1).symm
    rw [eb] at hc
    refine optB_some hp (req_intro (by simp; omega) (ldI_intro (x := ((bAt l.stream a).toNat : Int)) (by rw [Int.toNat_natCast, Nat.mul_one]; exact hc) ?_))
    by_cases h2 : bAt l.stream a = 0
    · refine sel_t (by rw [h2]; rfl) ⟨0, false, rfl, hd, .refl _ _, ?_⟩
      have e : takeL l.run l.stream a = none := by unfold takeL; rw [if_pos h1, if_pos h2]
      rw [e]; exact ⟨rfl, hl⟩
    refine sel_f (by simp; intro h; exact h2 (UInt8.toNat.inj (by simpa using h))) (hb_ldS (j := 5) hl.hb (A := ρ.S) (n := l.stream.length) (c := ρ.sc) rfl ?_)
    rw [w64_in (x := (a : Int) + 1) (by omega)]
    refine (GetText_ok rb rfl (by omega) hl.st.le (by omega)).mono ?_
    rintro _ w1 ⟨A1, c1, rfl, o1, g1⟩
    refine ⟨_, _, _, _, _, rfl, ?_⟩
    have hl1 := hl.below g1
    have hd1 := hd.below g1
    by_cases h3 : (textL l.stream ((a : Int) + 1) 1200).2.2 = 0
    · have e : takeL l.run l.stream a = some (⟨(l.run * 16777216 + a : Nat), ((bAt l.stream a).toNat : Int), (textL l.stream ((a : Int) + 1) 1200).1⟩, (textL l.stream ((a : Int) + 1) 1200).2.1) := by
        unfold takeL; rw [if_pos h1, if_neg h2, if_pos h3]
      obtain ⟨t1, t2, t3⟩ := textL_some h3
      rw [e]
      have gd := (Below.refl w1.heap.size w1).drew
      have hl2 := hl1.below gd
      have hlr : ∀ w', HB w' ρ.L (lgC r ρ l) TLog ∧ OwnB w' B TU8 ρ.S ρ.sc l.stream → w'.cell? (p.add (((a : Nat) : Int).toNat * 1)) = some (.int .u8 ((bAt l.stream a).toNat : Int)) := fun w' hw => by
        obtain ⟨p', hp', hc'⟩ := hw.2.reads a h1
        rw [hp] at hp'; injection hp' with hp'; subst hp'
        rw [eb] at hc'
        rw [Int.toNat_natCast, Nat.mul_one]; exact hc'
      refine sel_f (by simpa using h3) (drW_intro ⟨fun w' => HB w' ρ.L (lgC r ρ l) TLog ∧ OwnB w' B TU8 ρ.S ρ.sc l.stream, ⟨hl2.hb, hl2.st⟩, ⟨_, _, _, fun w' h => (h.1.cell 7).trans rfl, ⟨_, _, _, fun w' h => (h.1.cell 5).trans rfl, optB_some hp (req_intro (by simp; omega) ⟨_, hlr, ?_⟩)⟩⟩⟩)
      have lsn : Calls Tryd.prog 47 #[.pointer (some ⟨ρ.L, 0, none⟩), .int .i64 (a : Int)] w1.drew fun e w' => e = .returned (.int .i64 ((l.run * 16777216 + a : Nat) : Int)) ∧ w' = w1.drew := by
        apply f_wal_Log_lsn.ok
        unfold f_wal_Log_lsn.wp
        refine hb_ldI (j := 3) hl2.hb rfl ⟨?_, rfl⟩
        rw [w64_in (x := (l.run : Int) * 16777216) (by omega), w64_in (by omega)]
        congr 2
      refine lsn.mono ?_
      rintro _ _ ⟨rfl, rfl⟩
      refine ⟨_, rfl, ⟨hl2.hb, hl2.st⟩, al_new fun w3 b e3 s3 h3' g3 => ?_⟩
      have hl3 := hl2.below g3
      have hd3 := (hd1.below gd).below g3
      have hw1 := g1.size
      have hw2 : w1.drew.heap.size = w1.heap.size := rfl
      have g13 : Below w1.heap.size w1 w3 := gd.trans g3
      refine ⟨⟨hl3.hb, hl3.st⟩, ?_⟩
      have ew : IntKind.i64.wrap ((bAt l.stream a).toNat : Int) = ((bAt l.stream a).toNat : Int) := by have := (bAt l.stream a).toNat_lt; rw [w64_in (by omega)]
      rw [ew] at h3'
      refine putRec (rc := ⟨(l.run * 16777216 + a : Nat), ((bAt l.stream a).toNat : Int), (textL l.stream ((a : Int) + 1) 1200).1⟩) hl3 hs2 h3' ⟨rfl, rfl, rfl, o1.le, t1, o1.reads.below g13 (Nat.le_refl _), fun q hq => ?_, fun q hq => (by obtain ⟨cs, hc⟩ := own_hbB o1 hq; exact ⟨cs, hc.below g13⟩)⟩ (by omega) (fun w' k' => ?_) fun A' c' w4 hS4 k4 hfin => ?_
      · have hq1 := o1.block q hq
        refine ⟨by show q.block < w3.heap.size; omega, ?_⟩
        rintro (hn | hn)
        · have := (hl.lt _ hn).1; omega
        · have := (hd.lt _ hn).1; omega
      · obtain ⟨n1, n2, n3⟩ := hl3.nn
        exact ⟨hl3.hb.keeps k' n2, OwnB.keepsB hl3.st k' fun a ha hk => n3 _ ⟨a, ha, rfl⟩ hk⟩
      · refine hb_st (j := 7) hS4.1 (by simp [lgC]) fun w5 q5 k5 => ?_
        obtain ⟨f1, f2, f3⟩ := hfin q5 k5
        have kk : Keeps (LN ρ) w w5 := (Keeps.of_below (g1.trans (g13.mono hw1))).trans f2
        exact ⟨_, true, rfl, hl.dm hd kk, kk, rfl, rfl, ⟨ρ.L, ρ.S, ρ.sc, A', c'⟩, rfl, f1, fun k hk => (f3 k hk).imp id fun h => by omega⟩
    · have e : takeL l.run l.stream a = none := by unfold takeL; rw [if_pos h1, if_neg h2, if_neg h3]
      rw [e]
      exact sel_t (by simpa using h3) ⟨0, false, rfl, hd1, .of_below g1, rfl, hl1⟩
  · have e : takeL l.run l.stream a = none := by unfold takeL; rw [if_neg h1]
    rw [e]
    exact sel_t (by simp; omega) ⟨0, false, rfl, hd, .refl _ _, rfl, hl⟩
end
end Go.Proofs.YtpokaafedpnbdaaDoor.Rd

/-! wal: Open. Conditions: sectors of bytes, the power on. -/
namespace Go.Proofs.YtpokaafedpnbdaaDoor.Rd
open Go.Dn Go.RowKit Go.Shelf
set_option linter.unusedVariables false
set_option linter.unusedSimpArgs false
set_option maxRecDepth 100000
section
variable {w w' : World} {B B1 : Nat} {r : RD} {d : Dk} {ρ : RL} {l : Lg}
/-- what stands behind a call of take -/
def TkP (w : World) (B : Nat) (r : RD) (ρ : RL) (l : Lg) (R0 : List Rc) (a nx : Nat) (ok : Bool) : Prop := match takeL l.run l.stream a with
  | none => ok = false ∧ LM w B r ρ { l with recs := R0 }
  | some q => ok = true ∧ nx = q.2 ∧ LM w B r ρ { l with recs := R0 ++ [q.1] }
theorem take_loop {w0 : World} {ρ0 : RL} (hs : l.stream.length ≤ 100000 ∧ l.run ≤ 274877906944) (hBB : B ≤ w0.heap.size) {K : Int → World → Prop} (k1 : Nat) : ∀ (k : Nat) (a nx : Nat) (ok : Bool) (w : World) (ρ : RL) (R0 : List Rc), a ≤ l.stream.length → l.stream.length - a < k → R0.length ≤ a → ρ.L = ρ0.L → DM w B1 r d → TkP w B r ρ l R0 a nx ok →
    (∀ k, LN ρ k → LN ρ0 k ∨ w0.heap.size ≤ k) → Keeps (LN ρ0) w0 w →
    (∀ ρ' w', ρ'.L = ρ0.L → DM w' B1 r d → LM w' B r ρ' { l with recs := R0 ++ (recsL l.run l.stream k a).1 } → (∀ k, LN ρ' k → LN ρ0 k ∨ w0.heap.size ≤ k) → Keeps (LN ρ0) w0 w' → K ((recsL l.run l.stream k a).2 : Int) w') →
    f_wal_Open.l0 k (⟨ρ0.L, 0, none⟩ : Addr) (a : Int) (nx : Int) ok w K := by
  intro k
  induction k with
  | zero => intro a nx ok w ρ R0 ha hk; omega
  | succ k ih =>
    intro a nx ok w ρ R0 ha hk hR eL hd hp hn kp hK
    unfold f_wal_Open.l0
    unfold TkP at hp
    unfold recsL at hK
    cases ht : takeL l.run l.stream a with
    | none =>
      rw [ht] at hp hK
      obtain ⟨rfl, hl⟩ := hp
      refine sel_f rfl (hK ρ w eL hd ?_ hn kp)
      simpa using hl
    | some q =>
      rw [ht] at hp hK
      obtain ⟨rfl, rfl, hl⟩ := hp
      obtain ⟨q1, q2, q3⟩ := takeL_some ht
      rw [← eL]
      have hws := kp.size
      refine sel_t rfl ((take_ok hd hl ⟨hs.1, by show (R0 ++ [q.1]).length ≤ _; rw [List.length_append, List.length_singleton]; omega, hs.2⟩ (by omega) (a := q.2) q2).mono ?_)
      rintro _ w1 ⟨nx, ok, rfl, hd1, k1', hm⟩
      refine ⟨_, _, rfl, ?_⟩
      have kk : Keeps (LN ρ0) w0 w1 := kp.trans' k1' fun k hk hN => (hn k hN).elim id fun h => by omega
      have go : ∀ ρ', ρ'.L = ρ.L → TkP w1 B r ρ' l (R0 ++ [q.1]) q.2 nx ok → (∀ k, LN ρ' k → LN ρ0 k ∨ w0.heap.size ≤ k) → f_wal_Open.l0 k (⟨ρ.L, 0, none⟩ : Addr) (q.2 : Int) (nx : Int) ok w1 K := by
        intro ρ' eL' hp' hn'
        rw [eL]
        refine ih q.2 nx ok w1 ρ' (R0 ++ [q.1]) q2 (by omega) (by rw [List.length_append, List.length_singleton]; omega) (eL'.trans eL) hd1 hp' hn' kk fun ρ2 w2 e2 hd2 hl2 hn2 kk2 => hK ρ2 w2 e2 hd2 ?_ hn2 kk2
        have : R0 ++ (q.1 :: (recsL l.run l.stream k q.2).1) = R0 ++ [q.1] ++ (recsL l.run l.stream k q.2).1 := by simp
        show LM w2 B r ρ2 { l with recs := R0 ++ (q.1 :: (recsL l.run l.stream k q.2).1) }
        rw [this]; exact hl2
      have hm' : match takeL l.run l.stream q.2 with
        | none => ok = false ∧ LM w1 B r ρ { l with recs := R0 ++ [q.1] }
        | some q' => ok = true ∧ nx = q'.2 ∧ ∃ ρ', ρ'.L = ρ.L ∧ LM w1 B r ρ' { l with recs := (R0 ++ [q.1]) ++ [q'.1] } ∧ ∀ k, LN ρ' k → LN ρ k ∨ w.heap.size ≤ k := hm
      cases ht2 : takeL l.run l.stream q.2 with
      | none =>
        rw [ht2] at hm'
        obtain ⟨e1, e2⟩ := hm'
        exact go ρ rfl (by unfold TkP; rw [ht2]; exact ⟨e1, e2⟩) hn
      | some q' =>
        rw [ht2] at hm'
        obtain ⟨e1, e2, ρ', e3, e4, e5⟩ := hm'
        exact go ρ' e3 (by unfold TkP; rw [ht2]; exact ⟨e1, e2, e4⟩) fun k hk => (e5 k hk).elim (hn k) fun h => .inr (by omega)
theorem openLg_S {d : Dk} {first count : Nat} (h1 : 1 ≤ count) (hc : count ≤ 16) (hf : first ≤ 4096) : LgS (openLg d first count) := by
  have ll := loadL_le (secF d first) count
  have rl := recsL_le (loadL (secF d first) count).run (loadL (secF d first) count).stream ((loadL (secF d first) count).stream.length + 1) 0 (Nat.zero_le _)
  have h16 : count * 498 ≤ 16 * 498 := Nat.mul_le_mul_right _ hc
  refine ⟨h1, hc, hf, ?_, ?_, ll.1, ll.2.1, ?_⟩
  · show (List.take _ _).length ≤ _
    rw [List.length_take]; omega
  · show _ ≤ (List.take _ _).length
    rw [List.length_take]
    show (recsL _ _ _ 0).2 ≤ _
    omega
  · show (recsL _ _ _ 0).1.length ≤ (List.take _ _).length
    rw [List.length_take]
    show (recsL _ _ _ 0).1.length ≤ min (recsL _ _ _ 0).2 _
    omega
theorem Open_wal (h : DM w B1 r d) (hd : BD d) (hoff : d.off = false) {first count : Nat} (h1 : 1 ≤ count) (hc : count ≤ 16) (hfc : first + count ≤ d.safe.length) (h0 : (loadL (secF d first) count).run ≠ 0) :
    Calls Tryd.prog 18 #[.pointer (some ⟨r.D, 0, none⟩), .int .i64 first, .int .i64 count] w fun e w' => ∃ (ρ : RL) (A : Option Addr) (c Bx : Nat), e = .returned (.tuple #[.pointer (some ⟨ρ.L, 0, none⟩), .slice A (openLg d first count).recs.length c, .int .i64 0]) ∧ DM w' B1 r d ∧
      LM w' w.heap.size r ρ (openLg d first count) ∧ RsO w' Bx A c (openLg d first count).recs ∧ w.heap.size ≤ Bx ∧ (∀ k, LN ρ k → k < Bx) ∧ Below w.heap.size w w' := by
  have hsl := h.sl
  apply f_wal_Open.ok
  unfold f_wal_Open.wp
  refine (outside_ok h (by omega)).mono ?_
  rintro _ w ⟨rfl, rfl⟩
  refine ⟨_, rfl, sel_f (by simp; omega) (al_new fun w1 L e1 s1 q1 g1 => ?_)⟩
  obtain ⟨l0, hl0⟩ : ∃ l0 : Lg, l0 = ⟨first, count, 0, 0, [], 0, [], true, false⟩ := ⟨_, rfl⟩
  have hl1 : LM w1 w.heap.size r ⟨L, none, 0, none, 0⟩ l0 := by
    subst hl0
    exact ⟨q1, by show w.heap.size ≤ L; omega, World.ownsRow_nil _ _ _ _, [], OwnE.none _ _ _ _ _, RsM.nil⟩
  have ef : l0.first = first := by rw [hl0]
  have ec : l0.count = count := by rw [hl0]
  have hn0 : ∀ {k}, LN ⟨L, none, 0, none, 0⟩ k → w.heap.size ≤ k := by
    rintro k (e | ⟨a, ha, _⟩ | ⟨a, ha, _⟩)
    · have : k = L := e
      omega
    · cases ha
    · cases ha
  refine (load_ok (h.below g1) hl1 (by subst hl0; exact ⟨rfl, rfl, rfl⟩) hd hoff (by rw [ef, ec]; exact hfc) (by rw [ec]; exact hc) g1.size).mono ?_
  rw [ef, ec]
  rintro _ w2 ⟨rfl, h2, ⟨ρ2, eL2, hl2, hn2⟩, k2⟩
  have eL2' : ρ2.L = L := eL2
  rw [if_neg h0]
  refine ⟨_, rfl, sel_f rfl ?_⟩
  have ll := loadL_le (secF d first) count
  have h16 : count * 498 ≤ 16 * 498 := Nat.mul_le_mul_right _ hc
  have hsz := g1.size
  have hsz2 := k2.size
  rw [← eL2']
  refine (take_ok h2 hl2 ⟨by show (loadL _ _).stream.length ≤ _; omega, by subst hl0; exact Nat.zero_le _, ll.1⟩ (by omega) (a := 0) (Nat.zero_le _)).mono ?_
  rintro _ w3 ⟨nx, ok, rfl, h3, k3, hm⟩
  refine ⟨_, _, rfl, (loadL (secF d first) count).stream.length + 1, ?_⟩
  have er : (ldLg l0 (loadL (secF d first) count)).run = (loadL (secF d first) count).run := rfl
  have es : (ldLg l0 (loadL (secF d first) count)).stream = (loadL (secF d first) count).stream := rfl
  have erc : (ldLg l0 (loadL (secF d first) count)).recs = [] := by subst hl0; rfl
  rw [er, es, erc] at hm
  have all : ∀ ρ3, ρ3.L = ρ2.L → TkP w3 w.heap.size r ρ3 (ldLg l0 (loadL (secF d first) count)) [] 0 nx ok → (∀ k, LN ρ3 k → LN ρ2 k ∨ w2.heap.size ≤ k) →
      f_wal_Open.l0 ((loadL (secF d first) count).stream.length + 1) (⟨ρ2.L, 0, none⟩ : Addr) 0 (nx : Int) ok w3 (fun (x15 : Int) (w16 : World) => ∀ _ : Fr,
        ldS w16 ((⟨ρ2.L, 0, Option.none⟩ : Addr).add 5) fun A17 n17 c17 =>
        req (decide (0 ≤ x15 ∧ x15 ≤ (c17 : Int))) <|
        stW w16 ((⟨ρ2.L, 0, Option.none⟩ : Addr).add 5) (.slice (slA A17 0 c17 1) (x15.toNat - 0) (c17 - 0)) fun w18 =>
        stW w18 ((⟨ρ2.L, 0, Option.none⟩ : Addr).add 6) (.int .i64 x15) fun w19 =>
        ldS w19 ((⟨ρ2.L, 0, Option.none⟩ : Addr).add 7) fun A20 n20 c20 =>
        Calls Tryd.prog 42 #[.slice A20 n20 c20] w19 fun e21 w22 => ∃ (A23 : Option Addr) (n23 : Nat) (c23 : Nat), e21 = .returned (.slice A23 n23 c23) ∧ (
        ∃ (ρ : RL) (A : Option Addr) (c Bx : Nat), Ending.returned (.tuple #[.pointer (some (⟨ρ2.L, 0, Option.none⟩ : Addr)), .slice A23 n23 c23, .int .i64 (0 : Int)]) = .returned (.tuple #[.pointer (some ⟨ρ.L, 0, none⟩), .slice A (openLg d first count).recs.length c, .int .i64 0]) ∧ DM w22 B1 r d ∧
        LM w22 w.heap.size r ρ (openLg d first count) ∧ RsO w22 Bx A c (openLg d first count).recs ∧ w.heap.size ≤ Bx ∧ (∀ k, LN ρ k → k < Bx) ∧ Below w.heap.size w w22)) := by
    intro ρ3 e3 hp hn3
    refine take_loop (w0 := w2) (ρ0 := ρ2) ⟨by show (loadL _ _).stream.length ≤ _; omega, ll.1⟩ (by omega) 0 _ 0 nx ok w3 ρ3 [] (Nat.zero_le _) (by rw [es]; omega) (Nat.le_refl _) e3 h3 hp hn3 k3 fun ρ4 w4 e4 h4 hl4 hn4 k4 _ => ?_
    rw [er, es] at hl4 ⊢
    rw [List.nil_append] at hl4
    have rl := recsL_le (loadL (secF d first) count).run (loadL (secF d first) count).stream ((loadL (secF d first) count).stream.length + 1) 0 (Nat.zero_le _)
    have tk := hl4.st.le
    have tk' : (loadL (secF d first) count).stream.length ≤ ρ4.sc := tk
    rw [← e4]
    refine hb_ldS (j := 5) hl4.hb (A := ρ4.S) (n := (loadL (secF d first) count).stream.length) (c := ρ4.sc) rfl (req_intro (by simp; omega) ?_)
    rw [slA_0, Int.toNat_natCast, Nat.sub_zero, Nat.sub_zero]
    refine hb_st (j := 5) hl4.hb (by simp [lgC]) fun w5 q5 k5 => hb_st (j := 6) q5 (by simp [lgC]) fun w6 q6 k6 => ?_
    obtain ⟨n1, n2, n3⟩ := hl4.nn
    obtain ⟨ms, m1, m2⟩ := hl4.rc
    have k56 := k5.trans k6
    have hl6 : LM w6 w.heap.size r ρ4 (openLg d first count) := by
      refine ⟨?_, hl4.lo, ?_, ms, m1.keeps k56 fun a ha e => n2 ⟨a, ha, e⟩, m2.keeps k56 fun k e => .inl (.inl e)⟩
      · have : ((loadL (secF d first) count).stream.take (recsL (loadL (secF d first) count).run (loadL (secF d first) count).stream ((loadL (secF d first) count).stream.length + 1) 0).2).length = (recsL (loadL (secF d first) count).run (loadL (secF d first) count).stream ((loadL (secF d first) count).stream.length + 1) 0).2 := by
          rw [List.length_take]; omega
        unfold lgC openLg
        simp only
        rw [this]
        subst hl0
        exact q6
      · exact OwnB.take (OwnB.keepsB hl4.st k56 fun a ha e => n1 ⟨a, ha, e⟩) _
    have kL : Keeps (LN ρ4) w4 w6 := k56.mono fun _ _ e => .inl e
    have h6 := hl4.dm h4 kL
    have hrl : (openLg d first count).recs.length ≤ 100000 := by
      show (recsL _ _ _ 0).1.length ≤ _
      omega
    obtain ⟨ms6, m61, m62⟩ := hl6.rc
    refine hb_ldS (j := 7) hl6.hb (A := ρ4.R) (n := (openLg d first count).recs.length) (c := ρ4.rc) rfl ?_
    refine (clone_ok (m61.reads ER) m62 m62.1.symm (fun e => by have := m61.nil0 e; exact ⟨this.1, by rw [← m62.1, this.2]; rfl⟩) (by omega)).mono ?_
    rintro _ w7 ⟨A7, c7, rfl, o7, g7⟩
    have hn4w : ∀ k, LN ρ4 k → w.heap.size ≤ k := fun k hk => by
      rcases hn4 k hk with q | q
      · rcases hn2 k q with q' | q'
        · exact hn0 q'
        · omega
      · omega
    have bel : Below w.heap.size w w6 := by
      have b2 : Below w.heap.size w w2 := g1.trans (k2.below (by omega) fun k hk hN => by have := hn0 hN; omega)
      have b4 : Below w.heap.size w w4 := b2.trans (k4.below b2.size fun k hk hN => by
        rcases hn2 k hN with q | q
        · have := hn0 q; omega
        · omega)
      exact b4.trans (kL.below b4.size fun k hk hN => by have := hn4w k hN; omega)
    exact ⟨A7, _, c7, rfl, ρ4, A7, c7, w6.heap.size, rfl, h6.below g7, hl6.below g7, o7, bel.size, fun k hk => (hl6.lt k hk).1, bel.trans (g7.mono bel.size)⟩
  cases ht : takeL (loadL (secF d first) count).run (loadL (secF d first) count).stream 0 with
  | none =>
    rw [ht] at hm
    obtain ⟨e1, e2⟩ := hm
    refine all ρ2 rfl ?_ fun _ => .inl
    unfold TkP
    rw [er, es, ht]
    refine ⟨e1, ?_⟩
    subst hl0
    exact e2
  | some q =>
    rw [ht] at hm
    obtain ⟨e1, e2, ρ', e3, e4, e5⟩ := hm
    refine all ρ' e3 ?_ e5
    unfold TkP
    rw [er, es, ht]
    exact ⟨e1, e2, e4⟩
end
end Go.Proofs.YtpokaafedpnbdaaDoor.Rd

/-! wal: Append. Conditions: a log of at most 16 sectors. -/
namespace Go.Proofs.YtpokaafedpnbdaaDoor.Rd
open Go.Dn Go.RowKit Go.Shelf
set_option linter.unusedVariables false
set_option linter.unusedSimpArgs false
set_option maxRecDepth 100000
/-- a record's bytes -/
def recB (kind : Int) (u : List UInt8) : List UInt8 := UInt8.ofNat (kind % 256).toNat :: putT u
def endL (l : Lg) : Nat := l.run * 16777216 + l.stream.length
def addL (l : Lg) (kind : Int) (u : List UInt8) : Lg := { l with stream := l.stream ++ recB kind u, recs := l.recs ++ [⟨(endL l : Nat), kind, u⟩] }
def appendL (l : Lg) (kind : Int) (u : List UInt8) : Lg × Int × Int :=
  if l.dead = true then (l, 0, 91) else if l.old = true then (l, 0, 111) else if kind < 1 ∨ 255 < kind then (l, 0, 1) else if 1200 < u.length then (l, 0, 4) else
  if (l.count : Int) * 498 - l.stream.length < (recB kind u).length then (l, 0, 90) else (addL l kind u, (endL l : Nat), 0)
theorem appendL_S {l : Lg} (h : LgS l) (kind : Int) (u : List UInt8) : LgS (appendL l kind u).1 := by
  unfold appendL
  split; · exact h
  split; · exact h
  split; · exact h
  split; · exact h
  split; · exact h
  rename_i hr
  have hc := h.c
  have hs := h.sa
  have hrs := h.rs
  have hl : (l.stream ++ recB kind u).length = l.stream.length + (recB kind u).length := List.length_append
  have h1 : 1 ≤ (recB kind u).length := by simp [recB]
  refine ⟨h.c0, h.c, h.f, ?_, ?_, h.run, h.most, ?_⟩
  · show (l.stream ++ recB kind u).length ≤ _; omega
  · show l.safe ≤ (l.stream ++ recB kind u).length; omega
  · show (l.recs ++ [_]).length ≤ (l.stream ++ recB kind u).length
    rw [List.length_append, List.length_singleton]; omega
section
variable {w w' : World} {B B1 : Nat} {r : RD} {d : Dk} {ρ : RL} {l : Lg}
theorem Append_gen (hF : ∀ k, FD r k → k < w.heap.size) (hl : LM w B r ρ l) (hs : LgS l) (hBB : B ≤ w.heap.size) {kind : Int} {A : Option Addr} {n c : Nat} {u : List UInt8} (hr : Go.Dn.RB w A u) (hn : n = u.length) (hA : A = none → c = 0) (hA2 : ∀ a, A = some a → ¬ LN ρ a.block) (hu : u.length ≤ 140737488355000) :
    Calls Tryd.prog 10 #[.pointer (some ⟨ρ.L, 0, none⟩), .int .i64 kind, .slice A n c] w fun e w' => e = .returned (.tuple #[.int .i64 (appendL l kind u).2.1, .int .i64 (appendL l kind u).2.2]) ∧
      (∃ ρ', ρ'.L = ρ.L ∧ LM w' B r ρ' (appendL l kind u).1 ∧ ∀ k, LN ρ' k → LN ρ k ∨ w.heap.size ≤ k) ∧ Keeps (LN ρ) w w' := by
  subst hn
  apply f_wal_Log_Append.ok
  unfold f_wal_Log_Append.wp appendL
  refine alW_intro ?_
  have g1 : Below w.heap.size w (w.alloc (.cells #[.int .u8 (IntKind.u8.wrap kind)] TU8)) := (Below.refl _ _).alloc (Nat.le_refl _) _
  have o1 : OwnB (w.alloc (.cells #[.int .u8 (IntKind.u8.wrap kind)] TU8)) w.heap.size TU8 (some ⟨w.heap.size, 0, none⟩) 1 [UInt8.ofNat (kind % 256).toNat] := OwnB.lit [UInt8.ofNat (kind % 256).toNat] (by
    simp only [List.map_cons, List.map_nil, byteV]
    rw [u8w, UInt8.toNat_ofNat']
    congr 2
    omega) (Nat.le_refl _) (by simp)
  obtain ⟨w1, hw1⟩ : ∃ w1, w.alloc (.cells #[.int .u8 (IntKind.u8.wrap kind)] TU8) = w1 := ⟨_, rfl⟩
  rw [hw1] at g1 o1 ⊢
  refine (PutText_ok (hr.below g1 (Nat.le_refl _)) rfl hA hu).mono ?_
  rintro _ w2 ⟨A2, c2, rfl, o2, g2⟩
  refine ⟨_, _, _, rfl, ?_⟩
  have pl : (putT u).length ≤ 10 + u.length := by
    have := putL_len u.length
    unfold putT; rw [List.length_append]; omega
  have g2s := g2.size
  refine app_b (o1.keep g2) rfl o2.reads rfl o2.nil0 (by have := g1.size; omega) (by simp; omega) fun A3 c3 w3 o3 k3 f3 => ⟨_, _, _, rfl, ?_⟩
  have g3 : Below w.heap.size w w3 := by
    have g12 : Below w.heap.size w w2 := g1.trans (g2.mono g1.size)
    refine g12.trans (k3.below g12.size fun k hk ⟨a, ha, e⟩ => ?_)
    injection ha with ha; subst ha; simp at e; omega
  have e3 : ([UInt8.ofNat (kind % 256).toNat] ++ putT u) = recB kind u := rfl
  rw [e3] at o3 ⊢
  have hl3 := hl.below g3
  refine hb_ldB (j := 9) hl3.hb rfl ?_
  by_cases h1 : l.dead = true
  · rw [if_pos h1]; exact sel_t h1 ⟨rfl, ⟨ρ, rfl, hl3, fun _ => .inl⟩, .of_below g3⟩
  rw [if_neg h1]
  refine sel_f (by simpa using h1) (hb_ldB (j := 8) hl3.hb rfl ?_)
  by_cases h2 : l.old = true
  · rw [if_pos h2]; exact sel_t h2 ⟨rfl, ⟨ρ, rfl, hl3, fun _ => .inl⟩, .of_below g3⟩
  rw [if_neg h2]
  refine sel_f (by simpa using h2) ?_
  by_cases h3 : kind < 1
  · rw [if_pos (.inl h3)]; exact sel_t (by simpa using h3) ⟨rfl, ⟨ρ, rfl, hl3, fun _ => .inl⟩, .of_below g3⟩
  refine sel_f (by simp; omega) ?_
  by_cases h4 : 255 < kind
  · rw [if_pos (.inr h4)]; exact sel_t (by simpa using h4) ⟨rfl, ⟨ρ, rfl, hl3, fun _ => .inl⟩, .of_below g3⟩
  rw [if_neg (by omega)]
  refine sel_f (by simp; omega) ?_
  by_cases h5 : 1200 < u.length
  · rw [if_pos h5]; exact sel_t (by simp; omega) ⟨rfl, ⟨ρ, rfl, hl3, fun _ => .inl⟩, .of_below g3⟩
  rw [if_neg h5]
  refine sel_f (by simp; omega) ((Room_ok hl3 hs).mono ?_)
  rintro _ w4 ⟨rfl, g4⟩
  have g04 : Below w.heap.size w w4 := g3.trans (g4.mono g3.size)
  have hl4 := hl3.below g4
  refine ⟨_, rfl, ?_⟩
  by_cases h6 : (l.count : Int) * 498 - l.stream.length < (recB kind u).length
  · rw [if_pos h6]; exact sel_t (by simpa using h6) ⟨rfl, ⟨ρ, rfl, hl4, fun _ => .inl⟩, .of_below g04⟩
  rw [if_neg h6]
  have hsc := hs.c
  have hss := hs.s
  refine sel_f (by simpa using h6) ((End_ok hl4 hs).mono ?_)
  rintro _ w4 ⟨rfl, rfl⟩
  refine ⟨_, rfl, hb_ldS (j := 5) hl4.hb (A := ρ.S) (n := l.stream.length) (c := ρ.sc) rfl ?_⟩
  have hw4 := g04.size
  have o4 := o3.keep g4
  have ob3 := o3.block
  refine app_b hl4.st rfl o4.reads rfl o4.nil0 (by omega) (by omega) fun A' c' w5 o5 k5 f5 => ⟨_, _, _, rfl, ?_⟩
  obtain ⟨n1, n2, n3⟩ := hl4.nn
  refine hb_st (j := 5) (hl4.hb.keeps k5 n1) (by simp [lgC]) fun w6 q6 k6 => ?_
  obtain ⟨ms, m1, m2⟩ := hl4.rc
  have hA' : ∀ a, A' = some a → a.block ≠ ρ.L := fun a ha e => by
    rcases f5 a ha with f | f
    · exact n1 ⟨a, f, e⟩
    · have := hl4.hb.lt; omega
  have L6 : LM w6 B r ⟨ρ.L, A', c', ρ.R, ρ.rc⟩ { l with stream := l.stream ++ recB kind u } := by
    refine ⟨q6, hl.lo, OwnB.keepsB o5 k6 hA', ms, (m1.keeps k5 fun a ha hk => n3 _ hk ⟨a, ha, rfl⟩).keeps k6 fun a ha e => n2 ⟨a, ha, e⟩, ?_⟩
    have m3 : RsM w4 (fun k => (LN ρ k ∨ FD r k) ∨ Ob A' k) ms l.recs := m2.out fun k hk hn => by
      rcases hn with hn | ⟨a, ha, e⟩
      · exact hn
      · rcases f5 a ha with f | f
        · exact .inl (.inr (.inl ⟨a, f, e⟩))
        · omega
    have m4 := (m3.keeps k5 fun k hk => .inl (.inl (.inr (.inl hk)))).keeps k6 fun k hk => .inl (.inl (.inl hk))
    exact m4.out fun k _ hn => by
      rcases hn with (hn | hn | hn) | hn
      · exact .inl (.inl (.inl hn))
      · exact .inr hn
      · exact .inl (.inl (.inr (.inr hn)))
      · exact .inl (.inr hn)
  have n6 : ∀ k, LN ⟨ρ.L, A', c', ρ.R, ρ.rc⟩ k → LN ρ k ∨ w4.heap.size ≤ k := by
    rintro k (e | ⟨a, ha, e⟩ | hk)
    · exact .inl (.inl e)
    · rcases f5 a ha with f | f
      · exact .inl (.inr (.inl ⟨a, f, e⟩))
      · exact .inr (by omega)
    · exact .inl (.inr (.inr hk))
  have k46 : Keeps (LN ρ) w4 w6 := (k5.mono fun _ _ hk => .inr (.inl hk)).trans (k6.mono fun _ _ e => .inl e)
  have K6 : Keeps (LN ρ) w w6 := (Keeps.of_below g04).trans k46
  have gd := (Below.refl w6.heap.size w6).drew
  have L7 := L6.below gd
  refine drW_intro ⟨fun w' => HB w' ρ.L (lgC r ⟨ρ.L, A', c', ρ.R, ρ.rc⟩ { l with stream := l.stream ++ recB kind u }) TLog, L7.hb, ⟨ρ.R, l.recs.length, ρ.rc, fun w' h => (h.cell 7).trans rfl, ?_⟩⟩
  have hr6 : Go.Dn.RB w6.drew A u := (RBk hr K6 fun a ha hN => hA2 a ha hN).below gd (Nat.le_refl _)
  refine (Clone_ok hr6 rfl (by omega)).mono ?_
  rintro _ w8 ⟨A8, c8, rfl, o8, z8, g8⟩
  have L8 := L7.below g8
  have hw8 := g8.size
  have hwd : w6.drew.heap.size = w6.heap.size := rfl
  refine ⟨_, _, _, rfl, L8.hb, al_new fun w9 b e9 s9 h9 g9 => ?_⟩
  have L9 := L8.below g9
  have g69 : Below w6.heap.size w6 w9 := (gd.trans g8).trans (g9.mono (by omega))
  have hw6 := K6.size
  refine ⟨L9.hb, ?_⟩
  obtain ⟨m1', m2', m3'⟩ := L9.nn
  refine putRec (rc := ⟨(endL l : Nat), kind, u⟩) L9 (by have := hs.rs; show l.recs.length ≤ _; omega) h9 ⟨rfl, rfl, rfl, o8.le, by show u.length ≤ 1200; omega, o8.reads.below g9 (Nat.le_refl _), fun q hq => ?_, fun q hq => (by obtain ⟨cs, hc⟩ := own_hbB o8 hq; exact ⟨cs, hc.below g9⟩)⟩ (by omega) (fun w' k' => L9.hb.keeps k' m2') fun A9 c9 w10 hS k10 hfin => ?_
  · have hq1 := o8.block q hq
    refine ⟨by show q.block < w9.heap.size; omega, ?_⟩
    rintro (hn | hn)
    · have := (L6.lt _ hn).1; omega
    · have := hF _ hn; omega
  · refine hb_st (j := 7) hS (by simp [lgC]) fun w11 q11 k11 => ?_
    obtain ⟨f1, f2, f3⟩ := hfin q11 k11
    have KK : Keeps (LN ρ) w w11 := (K6.trans (.of_below (g69.mono (Nat.le_refl _)))).trans' f2 fun k hk hN => (n6 k hN).elim id fun h => by omega
    refine ⟨rfl, ⟨⟨ρ.L, A', c', A9, c9⟩, rfl, f1, fun k hk => ?_⟩, KK⟩
    rcases f3 k hk with q | q
    · exact (n6 k q).imp id fun h => by omega
    · exact .inr (by omega)
theorem Append_wal (hd : DM w B1 r d) (hl : LM w B r ρ l) (hs : LgS l) (hBB : B ≤ w.heap.size) {kind : Int} {A : Option Addr} {n c : Nat} {u : List UInt8} (hr : Go.Dn.RB w A u) (hn : n = u.length) (hA : A = none → c = 0) (hA2 : ∀ a, A = some a → ¬ LN ρ a.block) (hu : u.length ≤ 140737488355000) :
    Calls Tryd.prog 10 #[.pointer (some ⟨ρ.L, 0, none⟩), .int .i64 kind, .slice A n c] w fun e w' => e = .returned (.tuple #[.int .i64 (appendL l kind u).2.1, .int .i64 (appendL l kind u).2.2]) ∧ DM w' B1 r d ∧
      (∃ ρ', ρ'.L = ρ.L ∧ LM w' B r ρ' (appendL l kind u).1 ∧ ∀ k, LN ρ' k → LN ρ k ∨ w.heap.size ≤ k) ∧ Keeps (LN ρ) w w' := by
  refine (Append_gen (fun k hk => (hd.lt k hk).1) hl hs hBB hr hn hA hA2 hu).mono ?_
  rintro _ w' ⟨rfl, q, k⟩
  exact ⟨rfl, hl.dm hd k, q, k⟩
/-- what the disk's blocks are, no record's body is: by the blocks' types -/
theorem LM.ofTy {r1 : RD} (h : LM w B r1 ρ l) (eD : r1.D = r.D) (hd : DM w B1 r d) : LM w B r ρ l := by
  obtain ⟨ms, h1, h2⟩ := h.rc
  refine ⟨?_, h.lo, h.st, ms, h1, h2.1, fun i q1 q2 => ?_⟩
  · have := h.hb
    unfold lgC at this ⊢
    rw [← eD]; exact this
  · have q := h2.2 i q1 q2
    refine ⟨q.l, q.k, q.n, q.c, q.b, q.rb, fun a ha => ⟨(q.a a ha).1, ?_⟩, q.ty⟩
    rintro (hn | hn)
    · exact (q.a a ha).2 (.inl hn)
    · obtain ⟨cs, hc⟩ := q.ty a ha
      rcases hd.ty hn hc with e | e | e <;> exact absurd e (by decide)
end
end Go.Proofs.YtpokaafedpnbdaaDoor.Rd

/-! wal: Flush. Conditions: a log of at most 16 sectors. -/
namespace Go.Proofs.YtpokaafedpnbdaaDoor.Rd
open Go.Dn Go.RowKit Go.Shelf
set_option linter.unusedVariables false
set_option linter.unusedSimpArgs false
set_option maxRecDepth 100000
/-- the stream's part in a sector -/
def secU (S : List UInt8) (i : Nat) : List UInt8 := (S.drop (i * 498)).take 498
def flushGo (l : Lg) : Nat → Nat → Dk → Dk × Int
  | 0, _, d => (d, 0)
  | k + 1, i, d => if i * 498 < l.stream.length then
      (if wcL d ((l.first + i : Nat) : Int) (buildL l.run (secU l.stream i)) ≠ 0 then (wrL d ((l.first + i : Nat) : Int) (buildL l.run (secU l.stream i)), wcL d ((l.first + i : Nat) : Int) (buildL l.run (secU l.stream i)))
      else flushGo l k (i + 1) (wrL d ((l.first + i : Nat) : Int) (buildL l.run (secU l.stream i)))) else (d, 0)
def flushL (d : Dk) (l : Lg) : Dk × Lg × Int :=
  if l.dead = true then (d, l, 91) else if l.safe = l.stream.length then (d, l, 0) else
  if (flushGo l 17 (l.safe / 498) d).2 ≠ 0 then ((flushGo l 17 (l.safe / 498) d).1, { l with dead := true }, (flushGo l 17 (l.safe / 498) d).2) else
  if syC (flushGo l 17 (l.safe / 498) d).1 ≠ 0 then (syD (flushGo l 17 (l.safe / 498) d).1, { l with dead := true }, syC (flushGo l 17 (l.safe / 498) d).1) else
  (syD (flushGo l 17 (l.safe / 498) d).1, { l with safe := l.stream.length }, 0)
theorem flushL_S {l : Lg} (h : LgS l) (d : Dk) : LgS (flushL d l).2.1 := by
  unfold flushL
  split; · exact h
  split; · exact h
  split; · exact ⟨h.c0, h.c, h.f, h.s, h.sa, h.run, h.most, h.rs⟩
  split; · exact ⟨h.c0, h.c, h.f, h.s, h.sa, h.run, h.most, h.rs⟩
  exact ⟨h.c0, h.c, h.f, h.s, Nat.le_refl _, h.run, h.most, h.rs⟩
theorem resetL_S {l : Lg} (h : LgS l) (d : Dk) : LgS (resetL d l).2.1 := by
  unfold resetL
  split; · exact h
  split; · exact h
  rename_i hm
  split; · exact ⟨h.c0, h.c, h.f, h.s, h.sa, h.run, h.most, h.rs⟩
  split; · exact ⟨h.c0, h.c, h.f, h.s, h.sa, h.run, h.most, h.rs⟩
  exact ⟨h.c0, h.c, h.f, Nat.zero_le _, Nat.le_refl _, by show l.most + 1 ≤ _; omega, by show l.most + 1 ≤ _; omega, Nat.le_refl _⟩
section
variable {w w' : World} {B B1 : Nat} {r : RD} {d : Dk} {ρ : RL} {l : Lg}
theorem bne0 {c : Int} (h : c ≠ 0) : (!(c == 0)) = true := by simpa using h
theorem beq0 {c : Int} (h : c = 0) : (!(c == 0)) = false := by rw [h]; rfl
theorem kLN {w w' : World} (k : Keeps (fun k => k = ρ.L) w w') : Keeps (LN ρ) w w' := k.mono fun _ _ e => .inl e
theorem rb_sl {A : Option Addr} {S : List UInt8} {c k : Nat} (h : Go.Dn.RB w A S) (hk : k < S.length) (hc : S.length ≤ c) : Go.Dn.RB w (slA A k c 1) (S.drop k) := by
  obtain ⟨a, rfl, _⟩ := h k hk
  unfold slA
  rw [if_neg (by omega), Option.map_some, Nat.mul_one]
  exact h.drop k
theorem flush_l0 {w0 : World} (hs : LgS l) (hdead : l.dead = false) {K : World → Prop} {Kr : Int → World → Prop} : ∀ (k i : Nat) (d : Dk) (w : World), k + i = 17 → DM w B1 r d → LM w B r ρ l → Keeps (WN r ρ) w0 w →
    (∀ w', (flushGo l k i d).2 = 0 → DM w' B1 r (flushGo l k i d).1 → LM w' B r ρ l → Keeps (WN r ρ) w0 w' → K w') →
    (∀ w', (flushGo l k i d).2 ≠ 0 → DM w' B1 r (flushGo l k i d).1 → LM w' B r ρ { l with dead := true } → Keeps (WN r ρ) w0 w' → Kr (flushGo l k i d).2 w') →
    f_wal_Log_Flush.l0 (k + 1) (⟨ρ.L, 0, none⟩ : Addr) (i : Int) w K Kr := by
  have hss := hs.s
  have hsf := hs.f
  intro k
  induction k with
  | zero =>
    intro i d w hi hd hl hk hK hKr
    unfold f_wal_Log_Flush.l0
    refine hb_ldS (j := 5) hl.hb (A := ρ.S) (n := l.stream.length) (c := ρ.sc) rfl ?_
    rw [w64_in (x := (i : Int) * 498) (by omega)]
    exact sel_f (by simp; omega) (hK w rfl hd hl hk)
  | succ k ih =>
    intro i d w hi hd hl hk hK hKr
    unfold f_wal_Log_Flush.l0
    refine hb_ldS (j := 5) hl.hb (A := ρ.S) (n := l.stream.length) (c := ρ.sc) rfl ?_
    rw [w64_in (x := (i : Int) * 498) (by omega)]
    unfold flushGo at hK hKr
    by_cases h1 : i * 498 < l.stream.length
    · rw [if_pos h1] at hK hKr
      have g0 := (Below.refl w.heap.size w).drew
      have hl0 := hl.below g0
      have hle := hl.st.le
      refine sel_t (by simp; omega) (drW_intro (hb_ldS (j := 5) hl0.hb (A := ρ.S) (n := l.stream.length) (c := ρ.sc) rfl (hb_ldS (j := 5) hl0.hb (A := ρ.S) (n := l.stream.length) (c := ρ.sc) rfl ?_)))
      have em : (if (l.stream.length : Int) < (IntKind.i64.wrap ((IntKind.i64.wrap ((i : Int) + (1 : Int))) * (498 : Int))) then (l.stream.length : Int) else (IntKind.i64.wrap ((IntKind.i64.wrap ((i : Int) + (1 : Int))) * (498 : Int)))) = ((min l.stream.length ((i + 1) * 498) : Nat) : Int) := by
        rw [w64_in (x := (i : Int) + 1) (by omega), w64_in (by omega)]
        split <;> omega
      rw [em]
      refine req_intro (by simp; omega) (req_intro (by simp; omega) (drW_intro ⟨fun w' => HB w' ρ.L (lgC r ρ l) TLog, (hl0.below (Below.refl _ _).drew).hb, ⟨_, fun w' h => (h.cell 0).trans rfl, ⟨_, fun w' h => (h.cell 1).trans rfl, ⟨_, fun w' h => (h.cell 3).trans rfl, ?_⟩⟩⟩⟩))
      have ei : ((i : Int) * 498).toNat = i * 498 := by omega
      rw [ei, Int.toNat_natCast]
      have g00 := g0.drew
      have hl00 := hl.below g00
      have hu : (secU l.stream i).length = min l.stream.length ((i + 1) * 498) - i * 498 := by
        unfold secU; rw [List.length_take, List.length_drop]; omega
      have hr : Go.Dn.RB w.drew.drew (slA ρ.S (i * 498) ρ.sc 1) (secU l.stream i) := (rb_sl hl00.st.reads h1 hle).take 498
      refine (build_ok (r := l.run) hr hu.symm (by rw [hu]; omega)).mono ?_
      rintro _ w1 ⟨A1, c1, rfl, o1, g1⟩
      have e512 : (buildL l.run (secU l.stream i)).length = 512 := buildL_len _ (by rw [hu]; omega)
      have g01 : Below w.heap.size w w1 := g00.trans g1
      have hl1 := hl.below g01
      have hd1 := hd.below g01
      refine ⟨_, _, _, rfl, hl1.hb, ?_⟩
      rw [show IntKind.i64.wrap ((l.first : Int) + (i : Int)) = ((l.first + i : Nat) : Int) by rw [w64_in (by omega)]; omega, ← e512]
      refine (bWrite_ok hd1 o1 fun k hk => (hd.lt k hk).1).mono ?_
      rintro _ w2 ⟨rfl, hd2, k2⟩
      have hl2 := hl1.disk hd1 k2
      refine ⟨_, rfl, (step_wal hl2 _).mono ?_⟩
      rintro _ w3 ⟨rfl, hl3, k3⟩
      have hd3 := hl2.dm hd2 (kLN k3)
      have K3 : Keeps (WN r ρ) w0 w3 := ((hk.trans (.of_below (g01.mono (Nat.le_refl _)))).trans (k2.mono fun _ _ => .inl)).trans ((kLN k3).mono fun _ _ => .inr)
      refine ⟨_, rfl, ?_⟩
      by_cases c : wcL d ((l.first + i : Nat) : Int) (buildL l.run (secU l.stream i)) = 0
      · rw [if_neg (by simpa using c)] at hK hKr
        rw [c, deadL_0] at hl3
        refine sel_f (beq0 c) ?_
        rw [show IntKind.i64.wrap ((i : Int) + 1) = ((i + 1 : Nat) : Int) by rw [w64_in (by omega)]; omega]
        exact ih (i + 1) _ w3 (by omega) hd3 hl3 K3 hK hKr
      · rw [if_pos c] at hKr
        rw [deadL_ne c] at hl3
        exact sel_t (bne0 c) (hKr w3 c hd3 hl3 K3)
    · rw [if_neg h1] at hK
      exact sel_f (by simp; omega) (hK w rfl hd hl hk)
theorem Flush_wal (hd : DM w B1 r d) (hl : LM w B r ρ l) (hs : LgS l) :
    Calls Tryd.prog 12 #[.pointer (some ⟨ρ.L, 0, none⟩)] w fun e w' => e = .returned (.int .i64 (flushL d l).2.2) ∧ DM w' B1 r (flushL d l).1 ∧ LM w' B r ρ (flushL d l).2.1 ∧ Keeps (WN r ρ) w w' := by
  have hss := hs.s
  have hsa := hs.sa
  apply f_wal_Log_Flush.ok
  unfold f_wal_Log_Flush.wp flushL
  refine hb_ldB (j := 9) hl.hb rfl ?_
  by_cases h1 : l.dead = true
  · rw [if_pos h1]; exact sel_t h1 ⟨rfl, hd, hl, .refl _ _⟩
  rw [if_neg h1]
  have g0 := (Below.refl w.heap.size w).drew
  have hl0 := hl.below g0
  have hd0 := hd.below g0
  refine sel_f (by simpa using h1) (drW_intro (hb_ldI (j := 6) hl0.hb (x := (l.safe : Int)) rfl (hb_ldS (j := 5) hl0.hb (A := ρ.S) (n := l.stream.length) (c := ρ.sc) rfl ?_)))
  by_cases h2 : l.safe = l.stream.length
  · rw [if_pos h2]; exact sel_t (by simp; omega) ⟨rfl, hd0, hl0, .of_below g0⟩
  rw [if_neg h2]
  refine sel_f (by simp; omega) (hb_ldI (j := 6) hl0.hb (x := (l.safe : Int)) rfl ⟨17 - l.safe / 498 + 1, ?_⟩)
  have ei : IntKind.i64.wrap ((l.safe : Int).tdiv 498) = ((l.safe / 498 : Nat) : Int) := by
    rw [Int.tdiv_eq_ediv_of_nonneg (Int.natCast_nonneg _), w64_in (by omega)]; omega
  rw [ei]
  have fuel : ∀ (k i : Nat) (d : Dk), k + i = 17 → ∀ j, flushGo l (k + j) i d = flushGo l k i d := by
    intro k
    induction k with
    | zero =>
      intro i d hi j
      cases j with
      | zero => rfl
      | succ j => unfold flushGo; rw [if_neg (by omega)]
    | succ k ih =>
      intro i d hi j
      rw [show k + 1 + j = (k + j) + 1 by omega]
      unfold flushGo
      split
      · split
        · rfl
        · exact ih _ _ (by omega) j
      · rfl
  have ef : flushGo l 17 (l.safe / 498) d = flushGo l (17 - l.safe / 498) (l.safe / 498) d := by
    have := fuel (17 - l.safe / 498) (l.safe / 498) d (by omega) (l.safe / 498)
    rw [← this]
    congr 1
    omega
  rw [ef]
  obtain ⟨dd, hdd⟩ : ∃ dd, flushGo l (17 - l.safe / 498) (l.safe / 498) d = dd := ⟨_, rfl⟩
  refine flush_l0 (w0 := w) hs (by simpa using h1) (17 - l.safe / 498) (l.safe / 498) d w.drew (by omega) hd0 hl0 (.of_below g0) (fun w1 e1 hd1 hl1 k1 _ => ?_) (fun w1 e1 hd1 hl1 k1 _ => ?_)
  · rw [hdd] at e1 hd1 ⊢
    rw [if_neg (by simpa using e1)]
    refine hb_ldP0 hl1.hb rfl ((Sync_ok hd1).mono ?_)
    rintro _ w2 ⟨rfl, hd2, k2⟩
    have hl2 := hl1.disk hd1 k2
    refine ⟨_, rfl, (step_wal hl2 _).mono ?_⟩
    rintro _ w3 ⟨rfl, hl3, k3⟩
    have hd3 := hl2.dm hd2 (kLN k3)
    have K3 : Keeps (WN r ρ) w w3 := (k1.trans (k2.mono fun _ _ => .inl)).trans ((kLN k3).mono fun _ _ => .inr)
    refine ⟨_, rfl, ?_⟩
    by_cases c : syC dd.1 = 0
    · rw [if_neg (by simpa using c)]
      rw [c, deadL_0] at hl3
      refine sel_f (beq0 c) (hb_ldS (j := 5) hl3.hb (A := ρ.S) (n := l.stream.length) (c := ρ.sc) rfl (hb_st (j := 6) hl3.hb (by simp [lgC]) fun w4 q4 k4 => ⟨rfl, hl3.dm hd3 (kLN k4), hl3.cells k4 q4 rfl rfl, K3.trans ((kLN k4).mono fun _ _ => .inr)⟩))
    · rw [if_pos c]
      rw [deadL_ne c] at hl3
      exact sel_t (bne0 c) ⟨rfl, hd3, hl3, K3⟩
  · rw [hdd] at e1 hd1 ⊢
    rw [if_pos e1]
    exact ⟨rfl, hd1, hl1, k1⟩
end
end Go.Proofs.YtpokaafedpnbdaaDoor.Rd

/-! wal: Records. Conditions: a log of at most 16 sectors. -/
namespace Go.Proofs.YtpokaafedpnbdaaDoor.Rd
open Go.Dn Go.RowKit Go.Shelf
set_option linter.unusedVariables false
set_option linter.unusedSimpArgs false
set_option maxRecDepth 100000
/-- the first record's place that is not ahead of an LSN -/
def ixL (T : Int) : List Rc → Nat
  | [] => 0
  | x :: rs => if x.lsn < T then ixL T rs + 1 else 0
def fromL (T : Int) (rs : List Rc) : List Rc := rs.drop (ixL T rs)
theorem ixL_le (T : Int) : ∀ rs, ixL T rs ≤ rs.length
  | [] => Nat.le_refl _
  | x :: rs => by
    unfold ixL; split
    · rw [List.length_cons]; have := ixL_le T rs; omega
    · exact Nat.zero_le _
section
variable {w w' : World} {B B1 : Nat} {r : RD} {d : Dk} {ρ : RL} {l : Lg} {N : Nat → Prop}
theorem rec1_ok {b : Nat} {T : Int} {t : TypeId} (h : HB w b #[.int .i64 T] t) (x k : Int) (A : Option Addr) (n c : Nat) :
    Calls Tryd.prog 44 #[.agg #[.int .i64 x, .int .i64 k, .slice A n c], .pointer (some ⟨b, 0, none⟩)] w fun e w' => e = .returned (.bool (decide (T ≤ x))) ∧ Below w.heap.size w w' := by
  apply f_wal_Log_Records_1.ok
  unfold f_wal_Log_Records_1.wp
  refine al_new fun w1 b1 e1 s1 h1 g1 => hb_ldI0 h1 rfl (hb_ldI0 (h.below g1) rfl ⟨rfl, g1⟩)
theorem ix_l0 {w0 : World} {A : Option Addr} {c b : Nat} {ms : List MR} {rs : List Rc} {T : Int} (hl : rs.length ≤ 1099511627776) {t : TypeId} {K : World → Prop} {Kr : Int → World → Prop} (hr0 : RowE eR 3 w0 A ms) (hm : ms.length = rs.length ∧ ∀ i (h : i < ms.length) (h' : i < rs.length), ms[i].lsn = rs[i].lsn) (hb0 : HB w0 b #[.int .i64 T] t)
    (hK : ∀ w', Below w0.heap.size w0 w' → ixL T rs = rs.length → K w') (hKr : ∀ w', Below w0.heap.size w0 w' → ixL T rs < rs.length → Kr (ixL T rs : Int) w') :
    ∀ (m i : Nat) (w : World), m + i = rs.length → Below w0.heap.size w0 w → ixL T rs = i + ixL T (rs.drop i) → f_api_Record.l0 (m + 1) A rs.length c (⟨b, 0, none⟩ : Addr) (rs.length : Int) (i : Int) w K Kr := by
  intro m
  induction m with
  | zero =>
    intro i w hi hb hx
    unfold f_api_Record.l0
    refine sel_f (by simp; omega) (hK w hb ?_)
    rw [hx, List.drop_eq_nil_of_le (by omega)]
    show i + 0 = _; omega
  | succ m ih =>
    intro i w hi hb hx
    have hlt : i < rs.length := by omega
    have hlm : i < ms.length := by rw [hm.1]; exact hlt
    have row := hr0.keeps ER (S := fun _ => False) (.of_below hb) fun _ _ => id
    obtain ⟨a, rfl, _⟩ := row i hlm
    have c0 := row.c0 ER hlm
    have c1 := row.cj hlm (j := 1) (by decide)
    have c2 := row.cj hlm (j := 2) (by decide)
    unfold f_api_Record.l0
    refine sel_t (by simpa using hlt) (optB_some rfl (req_intro (by simp; omega) ?_))
    rw [Int.toNat_natCast]
    refine ldI_intro (x := ms[i].lsn) c0 (ldI_intro (x := ms[i].kind) c1 (ldS_intro (A := ms[i].A) (n := ms[i].n) (c := ms[i].c) c2 ((rec1_ok (hb0.below hb) _ _ _ _ _).mono ?_)))
    rintro _ w1 ⟨rfl, g1⟩
    refine ⟨_, rfl, ?_⟩
    have g1' := hb.trans (g1.mono hb.size)
    rw [hm.2 i hlm hlt]
    rw [List.drop_eq_getElem_cons hlt, show ixL T (rs[i] :: rs.drop (i + 1)) = if rs[i].lsn < T then ixL T (rs.drop (i + 1)) + 1 else 0 from rfl] at hx
    by_cases hq : rs[i].lsn < T
    · rw [if_pos hq] at hx
      refine sel_f (by simpa using hq) ?_
      rw [show IntKind.i64.wrap ((i : Int) + 1) = ((i + 1 : Nat) : Int) by rw [w64_in (by omega)]; omega]
      exact ih (i + 1) w1 (by omega) g1' (by rw [hx]; omega)
    · rw [if_neg hq, Nat.add_zero] at hx
      refine sel_t (by simp; omega) ?_
      rw [← hx]
      exact hKr w1 g1' (by rw [hx]; exact hlt)
theorem rowE_sl {A : Option Addr} {ms : List MR} {k c : Nat} (h : RowE eR 3 w A ms) (hk : k < ms.length) (hc : ms.length ≤ c) : RowE eR 3 w (slA A k c 3) (ms.drop k) := fun i hi => by
  rw [List.length_drop] at hi
  obtain ⟨a, rfl, hcell⟩ := h (k + i) (by omega)
  refine ⟨a.add (k * 3), ?_, fun j hj => ?_⟩
  · unfold slA; rw [if_neg (by omega)]; rfl
  · rw [List.getElem_drop, ← hcell j hj, Go.Dn.add_add a (k * 3) (i * 3), show k * 3 + i * 3 = (k + i) * 3 by omega]
theorem Records_wal (hd : DM w B1 r d) (hl : LM w B r ρ l) (hs : LgS l) {T : Int} :
    Calls Tryd.prog 20 #[.pointer (some ⟨ρ.L, 0, none⟩), .int .i64 T] w fun e w' => ∃ A c, e = .returned (.slice A (fromL T l.recs).length c) ∧ RsO w' w.heap.size A c (fromL T l.recs) ∧ Below w.heap.size w w' := by
  have hss := hs.s
  have hrs := hs.rs
  apply f_wal_Log_Records.ok
  unfold f_wal_Log_Records.wp
  refine al_new fun w1 b e1 s1 h1 g1 => ?_
  have hl1 := hl.below g1
  obtain ⟨ms, m1, m2⟩ := hl1.rc
  refine hb_ldS (j := 7) hl1.hb (A := ρ.R) (n := l.recs.length) (c := ρ.rc) rfl ?_
  have hle : ms.length ≤ ρ.rc := by
    obtain ⟨_, h⟩ := m1
    rcases h with ⟨h, h0⟩ | ⟨g, cap, cur, hv, _, _, hn, _⟩
    · omega
    · injection hv with _ _ hc; omega
  have ix : Calls Tryd.prog 43 #[.slice ρ.R l.recs.length ρ.rc, .func (.func 44) #[] #[.pointer (some ⟨b, 0, none⟩)]] w1 fun e w' => e = .returned (.int .i64 (if ixL T l.recs < l.recs.length then (ixL T l.recs : Int) else -1)) ∧ Below w1.heap.size w1 w' := by
    apply f_api_Record.ok
    unfold f_api_Record.wp
    refine ⟨l.recs.length + 1, ix_l0 (w0 := w1) (rs := l.recs) (T := T) (by omega) (m1.reads ER) ⟨m2.1, fun i h h' => (m2.2 i h h').l⟩ h1 (fun w' g e _ => ⟨?_, g⟩) (fun w' g e _ => ⟨?_, g⟩) l.recs.length 0 w1 rfl (Below.refl _ _) (by simp)⟩
    · rw [if_neg (by omega)]
    · rw [if_pos e]
  refine ix.mono ?_
  rintro _ w2 ⟨rfl, g2⟩
  refine ⟨_, rfl, ?_⟩
  have g02 : Below w.heap.size w w2 := g1.trans (g2.mono g1.size)
  have hl2 := hl1.below g2
  by_cases hx : ixL T l.recs < l.recs.length
  · rw [if_pos hx]
    refine sel_f (by simp) (hb_ldS (j := 7) hl2.hb (A := ρ.R) (n := l.recs.length) (c := ρ.rc) rfl (req_intro (by simp; omega) ?_))
    rw [Int.toNat_natCast]
    have m3 := m1.below g2
    have m4 := m2.below g2
    have row := rowE_sl (m3.reads ER) (k := ixL T l.recs) (c := ρ.rc) (by rw [m2.1]; exact hx) hle
    refine (clone_ok row (m4.drop _) (by rw [List.length_drop, m2.1]) (fun h => ?_) (by rw [List.length_drop]; omega)).mono ?_
    · obtain ⟨a, ha, _⟩ := row 0 (by rw [List.length_drop, m2.1]; omega)
      rw [h] at ha; cases ha
    · rintro _ w3 ⟨A3, c3, rfl, o3, g3⟩
      exact ⟨_, _, _, rfl, A3, c3, rfl, o3.mono g02.size, g02.trans (g3.mono g02.size)⟩
  · rw [if_neg hx]
    have e0 : fromL T l.recs = [] := List.drop_eq_nil_of_le (by omega)
    rw [e0]
    exact sel_t (by decide) ⟨none, 0, rfl, ⟨[], OwnE.none _ _ _ _ _, RsM.nil⟩, g02⟩
end
end Go.Proofs.YtpokaafedpnbdaaDoor.Rd
