/- A forest of closed walks in memory: its rope, three maps, spare places; make, drop, turn, alone. Conditions: none. -/
import Derived.Test.YtkkobfajahmfaaaEuM
import Derived.Test.YtkkobfajahmfaaaRdC
namespace Go.Proofs.Ytkkobfajahmfaaa.Rd
open Go.Dn Go.RowKit Go.Maps
set_option linter.unusedVariables false
set_option maxRecDepth 100000
theorem hb_ldM {w : World} {b : Nat} {cs : Array Value} {t : TypeId} (h : HB w b cs t) {j : Nat} {x : Option Nat} (hj : cs[j]? = some (.map x)) {K : Option Nat → Prop} (hk : K x) : ldM w ((⟨b, 0, none⟩ : Addr).add j) K := ⟨_, (h.cell j).trans hj, hk⟩
theorem hb_ldP0 {w : World} {b : Nat} {cs : Array Value} {t : TypeId} (h : HB w b cs t) {x : Option Addr} (hj : cs[0]? = some (.pointer x)) {K : Option Addr → Prop} (hk : K x) : ldP w (⟨b, 0, none⟩ : Addr) K := ⟨_, (h.cell 0).trans hj, hk⟩
theorem hb_ldB0 {w : World} {b : Nat} {cs : Array Value} {t : TypeId} (h : HB w b cs t) {x : Bool} (hj : cs[0]? = some (.bool x)) {K : Bool → Prop} (hk : K x) : ldB w (⟨b, 0, none⟩ : Addr) K := ⟨_, (h.cell 0).trans hj, hk⟩
def eI (i : Int) : Value := .int .i64 i
theorem eI_inj (x y : Int) (h : eI x = eI y) : x = y := by injection h
def eN (n : Nat) : Value := .int .i64 (n : Int)
theorem eN_inj (x y : Nat) (h : eN x = eN y) : x = y := by injection h with _ h; omega
def eA (p : Nat × Nat) : Value := .agg #[.int .i64 (p.1 : Int), .int .i64 (p.2 : Int)]
def eP (p : Bool × Int) : Value := .agg #[.bool p.1, .int .i64 p.2]
def okN (n : Nat) : Prop := n ≤ 1000000
theorem okN.w {n : Nat} (h : okN n) : W64 (n : Int) := by unfold okN at h; unfold W64; omega
abbrev TF : TypeId := 72
theorem Kint : Try.prog.underlying 3 = some (.int .i64) := by kernel_rfl
theorem KTv : KT Try.prog 68 3 3 eI W64 := ⟨by kernel_rfl, Maps.int_keyed Kint, fun x h => ⟨_, Maps.keyOf_int_mk Kint h.wf⟩, eI_inj⟩
theorem KTe : KT Try.prog 69 3 79 eI W64 := ⟨by kernel_rfl, Maps.int_keyed Kint, fun x h => ⟨_, Maps.keyOf_int_mk Kint h.wf⟩, eI_inj⟩
theorem KTw : KT Try.prog 70 3 77 eN okN := ⟨by kernel_rfl, Maps.int_keyed Kint, fun x h => ⟨_, Maps.keyOf_int_mk Kint h.w.wf⟩, eN_inj⟩
theorem zI (w : World) : (zeroValue 3).run Try.prog w = .ok (.int .i64 0) w := by kernel_rfl
theorem zA (w : World) : (zeroValue 79).run Try.prog w = .ok (.agg #[.int .i64 0, .int .i64 0]) w := by kernel_rfl
theorem zP (w : World) : (zeroValue 77).run Try.prog w = .ok (.agg #[.bool false, .int .i64 0]) w := by kernel_rfl
theorem slA0 (A : Option Addr) (c : Nat) : slA A 0 c 1 = A := by
  unfold slA
  split
  · rfl
  · cases A with
    | none => rfl
    | some a => simp [add_zero]
theorem OwnI.pop {w : World} {B : Nat} {e : TypeId} {A : Option Addr} {c : Nat} {l : List Int} {x : Int} (h : OwnI w B e A c (l ++ [x])) : OwnI w B e A c l := by
  unfold OwnI at h ⊢
  rw [List.map_append, List.length_append] at h
  obtain ⟨g, hg⟩ : ∃ g, A = some ⟨g, 0, none⟩ := by
    rcases h.2 with ⟨_, h0⟩ | ⟨g, cap, cur, hv, _⟩
    · simp at h0
    · injection hv with h1; exact ⟨g, h1⟩
  subst hg
  exact own_prefix h (by simp)
theorem Rope.rok {w : World} {r : RC} {rows : List (List Nat)} {V : Nat → Int × Int × Int} (h : Rope w r rows V) : RowsOk r.n rows := by obtain ⟨N, ts, hp, hf⟩ := h; exact hf.rok
theorem Rope.sap {w : World} {r : RC} {rows : List (List Nat)} {V : Nat → Int × Int × Int} (h : Rope w r rows V) : ∀ a, r.As = some a → r.B ≤ a.block ∧ a.block < w.heap.size ∧ a.block ≠ r.R ∧ a.block ≠ r.g := by obtain ⟨N, ts, hp, hf⟩ := h; exact hp.sap
theorem Rope.lt {w : World} {r : RC} {rows : List (List Nat)} {V : Nat → Int × Int × Int} (h : Rope w r rows V) : r.R < w.heap.size ∧ r.g < w.heap.size ∧ r.B ≤ r.R ∧ r.g ≠ r.R := by obtain ⟨N, ts, hp, hf⟩ := h; exact ⟨hp.R_lt, hp.g_lt.2, hp.hB, hp.gR⟩
theorem Rope.pos {w : World} {r : RC} {rows : List (List Nat)} {V : Nat → Int × Int × Int} (h : Rope w r rows V) : 0 < r.n := by obtain ⟨N, ts, hp, hf⟩ := h; exact hf.pos
structure Upd (F : Nat → Prop) (w w' : World) (F' : Nat → Prop) : Prop where
  kp : Keeps F w w'
  fr : ∀ k, F' k → F k ∨ w.heap.size ≤ k
theorem Upd.trans {F F' F2 : Nat → Prop} {w w' w2 : World} (h : Upd F w w' F') (k : Upd F' w' w2 F2) : Upd F w w2 F2 :=
  ⟨h.kp.trans' k.kp fun i hi h1 => (h.fr i h1).resolve_right (by omega), fun i hi => (k.fr i hi).elim (fun h1 => h.fr i h1) fun h1 => .inr (Nat.le_trans h.kp.size h1)⟩
theorem Upd.below {F : Nat → Prop} {w w' : World} (h : Below w.heap.size w w') : Upd F w w' F := ⟨.of_below h, fun k hk => .inl hk⟩

/-! ### the forest's blocks -/
structure EB where
  F : Nat
  r : RC
  mv : Nat
  me : Nat
  mw : Nat
  A : Option Addr
  c : Nat
def fC (b : EB) (n : Nat) : Array Value := #[.pointer (some ⟨b.r.R, 0, none⟩), .map (some b.mv), .map (some b.me), .map (some b.mw), .slice b.A n b.c]
def EB.ix (b : EB) : List Nat := [b.F, b.r.R, b.r.g, b.mv, b.me, b.mw]
structure EM (w : World) (b : EB) (rows : List (List Nat)) (V : Nat → Int × Int × Int) (vl : List (Int × Nat)) (el : List (Int × (Nat × Nat))) (wl : List (Nat × (Bool × Int))) (sp : List Nat) : Prop where
  hf : HB w b.F (fC b sp.length) TF
  rope : Rope w b.r rows V
  gv : GM w eI eN W64 b.mv vl
  ge : GM w eI eA W64 b.me el
  gw : GM w eN eP okN b.mw wl
  so : OwnI w b.r.B TI b.A b.c (zs sp)
  d : b.ix.Nodup
  da : ∀ a, b.A = some a → a.block ∉ b.ix ∧ ∀ a', b.r.As = some a' → a'.block ≠ a.block
  ds : ∀ a, b.r.As = some a → a.block ∉ b.ix
/-- the blocks that are the forest's -/
def Fe (b : EB) (k : Nat) : Prop := k ∈ b.ix ∨ (∃ a, b.A = some a ∧ a.block = k) ∨ ∃ a, b.r.As = some a ∧ a.block = k
section
variable {w w' : World} {b : EB} {rows : List (List Nat)} {V : Nat → Int × Int × Int} {vl : List (Int × Nat)} {el : List (Int × (Nat × Nat))} {wl : List (Nat × (Bool × Int))} {sp : List Nat}
theorem EM.dd (h : EM w b rows V vl el wl sp) : (b.F ≠ b.r.R ∧ b.F ≠ b.r.g ∧ b.F ≠ b.mv ∧ b.F ≠ b.me ∧ b.F ≠ b.mw) ∧ (b.r.R ≠ b.r.g ∧ b.r.R ≠ b.mv ∧ b.r.R ≠ b.me ∧ b.r.R ≠ b.mw) ∧ (b.r.g ≠ b.mv ∧ b.r.g ≠ b.me ∧ b.r.g ≠ b.mw) ∧ (b.mv ≠ b.me ∧ b.mv ≠ b.mw) ∧ b.me ≠ b.mw := by
  have := h.d
  simp only [EB.ix, List.nodup_cons, List.mem_cons, List.not_mem_nil, or_false, not_or, not_false_eq_true, List.nodup_nil, and_true] at this
  exact this
theorem nix {b : EB} {k : Nat} (h : k ∉ b.ix) : k ≠ b.F ∧ k ≠ b.r.R ∧ k ≠ b.r.g ∧ k ≠ b.mv ∧ k ≠ b.me ∧ k ≠ b.mw := by
  simp only [EB.ix, List.mem_cons, List.not_mem_nil, or_false, not_or] at h
  exact h
theorem EM.lt (h : EM w b rows V vl el wl sp) : ∀ k, Fe b k → k < w.heap.size := by
  rintro k (hk | ⟨a, ha, rfl⟩ | ⟨a, ha, rfl⟩)
  · simp only [EB.ix, List.mem_cons, List.not_mem_nil, or_false] at hk
    rcases hk with rfl | rfl | rfl | rfl | rfl | rfl
    · exact h.hf.lt
    · exact h.rope.lt.1
    · exact h.rope.lt.2.1
    · exact h.gv.lt
    · exact h.ge.lt
    · exact h.gw.lt
  · exact (h.so.block a ha).2
  · exact (h.rope.sap a ha).2.1
theorem EM.other (h : EM w b rows V vl el wl sp) {Q : Nat → Prop} (k : Keeps Q w w') (hQ : ∀ k, Q k → ¬ Fe b k) : EM w' b rows V vl el wl sp := by
  have n : ∀ k, k ∈ b.ix → ¬ Q k := fun k hk hq => hQ k hq (.inl hk)
  exact ⟨h.hf.keeps k (n _ (by simp [EB.ix])), h.rope.keeps k (n _ (by simp [EB.ix])) (n _ (by simp [EB.ix])) (fun a ha hq => hQ _ hq (.inr (.inr ⟨a, ha, rfl⟩))), h.gv.keeps k (n _ (by simp [EB.ix])), h.ge.keeps k (n _ (by simp [EB.ix])), h.gw.keeps k (n _ (by simp [EB.ix])), h.so.keeps k fun a ha hq => hQ _ hq (.inr (.inl ⟨a, ha, rfl⟩)), h.d, h.da, h.ds⟩
theorem EM.below (h : EM w b rows V vl el wl sp) (k : Below w.heap.size w w') : EM w' b rows V vl el wl sp := h.other (Q := fun _ => False) (.of_below k) fun _ h => h.elim
/-- the rope changed -/
theorem EM.ropeS (h : EM w b rows V vl el wl sp) {r' : RC} {rows' : List (List Nat)} {V' : Nat → Int × Int × Int} (hr : Rope w' r' rows' V') (m : Mv w b.r r') (k : Keeps (Sr b.r) w w') : EM w' { b with r := r' } rows' V' vl el wl sp ∧ Upd (Fe b) w w' (Fe { b with r := r' }) := by
  obtain ⟨⟨f1, f2, f3, f4, f5⟩, ⟨r1, r2, r3, r4⟩, ⟨g1, g2, g3⟩, ⟨v1, v2⟩, e1⟩ := h.dd
  have ns : ∀ {k}, k ≠ b.r.R → k ≠ b.r.g → ¬ Sr b.r k := fun h1 h2 hs => hs.elim h1 h2
  have lF := h.hf.lt; have lv := h.gv.lt; have le := h.ge.lt; have lw := h.gw.lt; have lR := h.rope.lt.1
  have ng : ∀ {k}, k < w.heap.size → k ≠ b.r.g → k ≠ r'.g := fun h1 h2 e => by rcases m.g with h3 | h3 <;> omega
  have ixe : ∀ {k}, k < w.heap.size → k ∉ b.ix → k ∉ ({ b with r := r' } : EB).ix := fun {k} hk hn => by
    obtain ⟨n1, n2, n3, n4, n5, n6⟩ := nix hn
    have n3' := ng hk n3
    have n2' : k ≠ r'.R := by rw [m.R]; exact n2
    simp only [EB.ix, List.mem_cons, List.not_mem_nil, or_false, not_or]
    exact ⟨n1, n2', n3', n4, n5, n6⟩
  refine ⟨⟨?_, hr, h.gv.keeps k (ns (by omega) (by omega)), h.ge.keeps k (ns (by omega) (by omega)), h.gw.keeps k (ns (by omega) (by omega)), ?_, ?_, ?_, ?_⟩, k.mono ?_, ?_⟩
  · have := h.hf.keeps k (ns f1 f2)
    have e : fC { b with r := r' } sp.length = fC b sp.length := by unfold fC; rw [show ({ b with r := r' } : EB).r.R = b.r.R from m.R]
    show HB w' b.F (fC { b with r := r' } sp.length) TF
    rw [e]; exact this
  · show OwnI w' r'.B TI b.A b.c (zs sp)
    rw [m.B]
    exact h.so.keeps k fun a ha => ns (nix (h.da a ha).1).2.1 (nix (h.da a ha).1).2.2.1
  · have g1' := ng lF f2; have g2' := ng lv (Ne.symm g1); have g3' := ng le (Ne.symm g2); have g4' := ng lw (Ne.symm g3); have g5' := ng lR r1
    have eR : r'.R = b.r.R := m.R
    simp only [EB.ix, List.nodup_cons, List.mem_cons, List.not_mem_nil, or_false, not_or, not_false_eq_true, List.nodup_nil, and_true]
    rw [eR]
    exact ⟨⟨f1, g1', f3, f4, f5⟩, ⟨g5', r2, r3, r4⟩, ⟨Ne.symm g2', Ne.symm g3', Ne.symm g4'⟩, ⟨v1, v2⟩, e1⟩
  · intro a ha
    refine ⟨ixe (h.so.block a ha).2 (h.da a ha).1, fun a' ha' => (h.da a ha).2 a' ?_⟩
    rw [← m.As]; exact ha'
  · intro a ha
    have ha' : b.r.As = some a := by rw [← m.As]; exact ha
    exact ixe (h.rope.sap a ha').2.1 (h.ds a ha')
  · intro k hk hs
    rcases hs with rfl | rfl
    · exact .inl (by simp [EB.ix])
    · exact .inl (by simp [EB.ix])
  · rintro k (hk | hk | ⟨a, ha, hk⟩)
    · simp only [EB.ix, List.mem_cons, List.not_mem_nil, or_false] at hk
      rcases hk with hk | hk | hk | hk | hk | hk
      · exact .inl (.inl (by simp [EB.ix, hk]))
      · have hk : k = b.r.R := hk.trans m.R
        exact .inl (.inl (by simp [EB.ix, hk]))
      · rcases m.g with e | e
        · have hk : k = b.r.g := hk.trans e
          exact .inl (.inl (by simp [EB.ix, hk]))
        · exact .inr (by omega)
      · exact .inl (.inl (by simp [EB.ix, hk]))
      · exact .inl (.inl (by simp [EB.ix, hk]))
      · exact .inl (.inl (by simp [EB.ix, hk]))
    · exact .inl (.inr (.inl hk))
    · exact .inl (.inr (.inr ⟨a, by rw [← m.As]; exact ha, hk⟩))
theorem EM.ropeT (h : EM w b rows V vl el wl sp) {rows' : List (List Nat)} {V' : Nat → Int × Int × Int} (hr : Rope w' b.r rows' V') (k : Keeps (Sr b.r) w w') : EM w' b rows' V' vl el wl sp ∧ Upd (Fe b) w w' (Fe b) := h.ropeS hr ⟨rfl, rfl, rfl, .inl rfl⟩ k
/-- one block of the six changed -/
theorem EM.one (h : EM w b rows V vl el wl sp) {x : Nat} (k : Keeps (fun k => k = x) w w') (hx : x ∈ b.ix) : Upd (Fe b) w w' (Fe b) ∧ (b.F ≠ x → HB w' b.F (fC b sp.length) TF) ∧ (b.r.R ≠ x → b.r.g ≠ x → Rope w' b.r rows V) ∧ (b.mv ≠ x → GM w' eI eN W64 b.mv vl) ∧ (b.me ≠ x → GM w' eI eA W64 b.me el) ∧ (b.mw ≠ x → GM w' eN eP okN b.mw wl) ∧ OwnI w' b.r.B TI b.A b.c (zs sp) :=
  ⟨⟨k.mono fun i _ e => .inl (by rw [e]; exact hx), fun i hi => .inl hi⟩, fun n => h.hf.keeps k n, fun n1 n2 => h.rope.keeps k n1 n2 (fun a ha e => h.ds a ha (by rw [e]; exact hx)), fun n => h.gv.keeps k n, fun n => h.ge.keeps k n, fun n => h.gw.keeps k n, h.so.keeps k fun a ha e => (h.da a ha).1 (by rw [e]; exact hx)⟩
theorem EM.mapV (h : EM w b rows V vl el wl sp) {vl' : List (Int × Nat)} (g : GM w' eI eN W64 b.mv vl') (k : Keeps (fun k => k = b.mv) w w') : EM w' b rows V vl' el wl sp ∧ Upd (Fe b) w w' (Fe b) := by
  obtain ⟨⟨f1, f2, f3, f4, f5⟩, ⟨r1, r2, r3, r4⟩, ⟨g1, g2, g3⟩, ⟨v1, v2⟩, e1⟩ := h.dd
  obtain ⟨u, a1, a2, a3, a4, a5, a6⟩ := h.one k (by simp [EB.ix])
  exact ⟨⟨a1 f3, a2 r2 g1, g, a4 (Ne.symm v1), a5 (Ne.symm v2), a6, h.d, h.da, h.ds⟩, u⟩
theorem EM.mapE (h : EM w b rows V vl el wl sp) {el' : List (Int × (Nat × Nat))} (g : GM w' eI eA W64 b.me el') (k : Keeps (fun k => k = b.me) w w') : EM w' b rows V vl el' wl sp ∧ Upd (Fe b) w w' (Fe b) := by
  obtain ⟨⟨f1, f2, f3, f4, f5⟩, ⟨r1, r2, r3, r4⟩, ⟨g1, g2, g3⟩, ⟨v1, v2⟩, e1⟩ := h.dd
  obtain ⟨u, a1, a2, a3, a4, a5, a6⟩ := h.one k (by simp [EB.ix])
  exact ⟨⟨a1 f4, a2 r3 g2, a3 v1, g, a5 (Ne.symm e1), a6, h.d, h.da, h.ds⟩, u⟩
theorem EM.mapW (h : EM w b rows V vl el wl sp) {wl' : List (Nat × (Bool × Int))} (g : GM w' eN eP okN b.mw wl') (k : Keeps (fun k => k = b.mw) w w') : EM w' b rows V vl el wl' sp ∧ Upd (Fe b) w w' (Fe b) := by
  obtain ⟨⟨f1, f2, f3, f4, f5⟩, ⟨r1, r2, r3, r4⟩, ⟨g1, g2, g3⟩, ⟨v1, v2⟩, e1⟩ := h.dd
  obtain ⟨u, a1, a2, a3, a4, a5, a6⟩ := h.one k (by simp [EB.ix])
  exact ⟨⟨a1 f5, a2 r4 g3, a3 v2, a4 e1, g, a6, h.d, h.da, h.ds⟩, u⟩

/-! ### turn, alone -/
theorem rows_in (h : EM w b rows V vl el wl sp) {l : List Nat} {R : List (List Nat)} (p : rows.Perm (l :: R)) {x : Nat} (hx : x ∈ l) : 0 < x ∧ x < b.r.n ∧ rowOf rows x = l ∧ Bd b.r.n (x : Int) = false := by
  have hl : l ∈ rows := p.mem_iff.2 (by simp)
  have h1 := (h.rope.rok.mem x).1 ⟨l, hl, hx⟩
  exact ⟨h1.1, h1.2, h.rope.rok.rowOf_eq hl hx, by simp [Bd]; omega⟩
theorem nodup_in (h : EM w b rows V vl el wl sp) {l : List Nat} {R : List (List Nat)} (p : rows.Perm (l :: R)) : l.Nodup := h.rope.rok.nd l (p.mem_iff.2 (by simp))
theorem turn_ok (h : EM w b rows V vl el wl sp) {l : List Nat} {R : List (List Nat)} (p : rows.Perm (l :: R)) {x : Nat} (hx : x ∈ l) :
    Calls Try.prog 40 #[.pointer (some ⟨b.F, 0, none⟩), .int .i64 (x : Int)] w fun e w' => e = .returned (.tuple #[]) ∧ ∃ P rows', EM w' b rows' V vl el wl sp ∧ Rot l (x :: P) ∧ rows'.Perm ((x :: P) :: R) ∧ Upd (Fe b) w w' (Fe b) := by
  apply f_euler_Forest_turn.ok
  unfold f_euler_Forest_turn.wp
  obtain ⟨x0, xn, rx, bx⟩ := rows_in h p hx
  have hpos : 0 < l.length := List.length_pos_of_mem hx
  have a0 : atE b.r.n rows (x : Int) 0 = ((l.getD 0 0 : Int), 0) := by
    unfold atE
    rw [bx]
    simp only [Bool.false_eq_true, if_false, Int.toNat_natCast, rx]
    rw [if_neg (by omega)]; rfl
  refine hb_ldP0 h.hf rfl ((At_ok h.rope (x : Int) 0).mono ?_)
  rintro e w1 ⟨rfl, b1⟩
  rw [a0]
  have h1 := h.below b1
  refine ⟨_, _, rfl, ?_⟩
  by_cases hz : l.getD 0 0 = x
  · refine sel_t (by rw [hz]; simp) ⟨rfl, ?_⟩
    cases l with
    | nil => simp at hpos
    | cons y P =>
      have : y = x := hz
      subst this
      exact ⟨P, rows, h1, .refl _, p, .below b1⟩
  · refine sel_f (by simp only [beq_eq_false_iff_ne, ne_eq]; omega) (hb_ldP0 h1.hf rfl ((Cut_ok h1.rope (x : Int)).mono ?_))
    rintro e w2 ⟨rfl, hr2, k2⟩
    obtain ⟨h2, u2⟩ := h1.ropeT hr2 k2
    refine ⟨_, rfl, hb_ldP0 h2.hf rfl ((Join_ok h2.rope (x : Int) (l.getD 0 0 : Int)).mono ?_)⟩
    rintro e w3 ⟨rfl, hr3, k3⟩
    obtain ⟨h3, u3⟩ := h2.ropeT hr3 k3
    refine ⟨_, rfl, rfl, ?_⟩
    have ec : cutS b.r.n rows (x : Int) = cutR rows x := by unfold cutS; rw [bx]; simp
    obtain ⟨P, e1, rt⟩ := split_at hx
    have i0 : l.idxOf x ≠ 0 := fun e => by
      rw [e, List.drop_zero] at e1
      rw [e1] at hz; exact hz rfl
    have pc : (cutR rows x).Perm ((l.take (l.idxOf x)) :: (x :: P) :: R) := by
      have := cut_perm h.rope.rok p hx
      unfold pieces at this
      rw [if_pos hx, if_neg i0, e1] at this
      exact this
    have hm0 : l.getD 0 0 ∈ l.take (l.idxOf x) := by
      cases l with
      | nil => simp at hpos
      | cons y l' =>
        obtain ⟨j, hj⟩ : ∃ j, (y :: l').idxOf x = j + 1 := ⟨(y :: l').idxOf x - 1, by omega⟩
        rw [hj, List.take_succ_cons]; simp
    rw [ec] at h3 h2
    have hrok := h2.rope.rok
    have pc' : (cutR rows x).Perm ((x :: P) :: (l.take (l.idxOf x)) :: R) := pc.trans (.swap _ _ _)
    have hx1 := rows_in h2 pc' (x := x) (by simp)
    have hy1 := rows_in h2 pc hm0
    have hne : rowOf (cutR rows x) x ≠ rowOf (cutR rows x) (l.getD 0 0) := by
      rw [hx1.2.2.1, hy1.2.2.1]
      intro e
      have nd := nodup_in h p
      have : x ∈ l.take (l.idxOf x) := by rw [← e]; simp
      rw [← List.take_append_drop (l.idxOf x) l, List.nodup_append] at nd
      exact nd.2.2 x this x (by rw [e1]; simp) rfl
    have ej : joinS b.r.n (cutR rows x) (x : Int) ((l.getD 0 0 : Nat) : Int) = joinR (cutR rows x) x (l.getD 0 0) := by
      unfold joinS
      rw [hx1.2.2.2, hy1.2.2.2]
      simp only [Bool.or_self, Bool.false_eq_true, if_false, Int.toNat_natCast]
      rw [if_neg hne]
    rw [ej] at h3
    refine ⟨_, _, h3, rt, ?_, ((Upd.below b1).trans u2).trans u3⟩
    exact join_perm hrok pc' (by simp) hm0
theorem alone_ok (h : EM w b rows V vl el wl sp) {X : List Nat} {R : List (List Nat)} {x : Nat} (hX : X ≠ []) (p : rows.Perm ((x :: X) :: R)) :
    Calls Try.prog 43 #[.pointer (some ⟨b.F, 0, none⟩), .int .i64 (x : Int)] w fun e w' => e = .returned (.tuple #[]) ∧ ∃ rows', EM w' b rows' V vl el wl sp ∧ rows'.Perm ([x] :: X :: R) ∧ Upd (Fe b) w w' (Fe b) := by
  apply f_euler_Forest_alone.ok
  unfold f_euler_Forest_alone.wp
  obtain ⟨x0, xn, rx, bx⟩ := rows_in h p (x := x) (by simp)
  obtain ⟨y, Y, rfl⟩ : ∃ y Y, X = y :: Y := by cases X with | nil => exact absurd rfl hX | cons y Y => exact ⟨y, Y, rfl⟩
  have a1 : atE b.r.n rows (x : Int) 1 = ((y : Int), 0) := by
    unfold atE
    rw [bx]
    simp only [Bool.false_eq_true, if_false, Int.toNat_natCast, rx]
    rw [if_neg (by simp only [List.length_cons]; omega)]; rfl
  refine hb_ldP0 h.hf rfl ((At_ok h.rope (x : Int) 1).mono ?_)
  rintro e w1 ⟨rfl, b1⟩
  rw [a1]
  have h1 := h.below b1
  refine ⟨_, _, rfl, sel_t rfl (hb_ldP0 h1.hf rfl ((Cut_ok h1.rope (y : Int)).mono ?_))⟩
  rintro e w2 ⟨rfl, hr2, k2⟩
  obtain ⟨h2, u2⟩ := h1.ropeT hr2 k2
  have my : y ∈ x :: y :: Y := by simp
  obtain ⟨_, _, _, bY⟩ := rows_in h p my
  have ec : cutS b.r.n rows (y : Int) = cutR rows y := by unfold cutS; rw [bY]; simp
  have nd := nodup_in h p
  have hxy : x ≠ y := fun e => by subst e; simp at nd
  have ix : (x :: y :: Y).idxOf y = 1 := by
    have : (x == y) = false := by simpa using hxy
    rw [List.idxOf_cons, this]; simp
  refine ⟨_, rfl, rfl, _, h2, ?_, (Upd.below b1).trans u2⟩
  rw [ec]
  have := cut_perm h.rope.rok p my
  unfold pieces at this
  rw [if_pos my, ix] at this
  exact this

/-! ### make, drop -/
theorem make_j0 (h : EM w b rows V vl el wl sp) {p : Bool × Int} {x : Nat} (hx : okN x) {bp : Nat} {tp : TypeId} (hp : HB w bp #[.bool p.1, .int .i64 p.2] tp) {Kr : Int → World → Prop}
    (hk : ∀ w', EM w' b rows V vl el (putK wl x p) sp → Upd (Fe b) w w' (Fe b) → Kr (x : Int) w') : f_euler_Forest_make.j0 ⟨b.F, 0, none⟩ ⟨bp, 0, none⟩ (x : Int) w Kr := by
  unfold f_euler_Forest_make.j0
  have hd := h.below (Below.refl _ _).drew
  have hpd : HB w.drew bp #[.bool p.1, .int .i64 p.2] tp := hp
  refine drW_intro (hb_ldM (j := 3) hd.hf rfl (hb_ldB0 hpd rfl (hb_ldI (j := 1) hpd rfl ?_)))
  refine hd.gw.upd KTw (x := x) hx (v := p) fun w' g k => ?_
  obtain ⟨h2, u2⟩ := hd.mapW g k
  exact hk w' h2 ((Upd.below (Below.refl _ _).drew).trans u2)
/-- what make leaves -/
structure Mk (w w' : World) (b b' : EB) (rows rows' : List (List Nat)) (V V' : Nat → Int × Int × Int) (vl : List (Int × Nat)) (el : List (Int × (Nat × Nat))) (wl : List (Nat × (Bool × Int))) (sp sp' : List Nat) (x : Nat) (p : Bool × Int) (v : Int × Int × Int) : Prop where
  em : EM w' b' rows' V' vl el (putK wl x p) sp'
  F : b'.F = b.F
  ms : b'.mv = b.mv ∧ b'.me = b.me
  upd : Upd (Fe b) w w' (Fe b')
  V : V' = fun i => if i = x then v else V i
  it : (sp = sp' ++ [x] ∧ rows' = rows ∧ b'.r.n = b.r.n) ∨ (sp = [] ∧ sp' = [] ∧ x = b.r.n ∧ rows' = rows ++ [[x]] ∧ b'.r.n = b.r.n + 1)
theorem make_ok (h : EM w b rows V vl el wl sp) (hn : b.r.n ≤ 65536) (hsp : ∀ x ∈ sp, 0 < x ∧ x < b.r.n) (p : Bool × Int) (v : Int × Int × Int) (hv : In64 v.1 ∧ In64 v.2.1 ∧ In64 v.2.2) :
    Calls Try.prog 39 #[.pointer (some ⟨b.F, 0, none⟩), .agg #[.bool p.1, .int .i64 p.2], .agg #[.int .i64 v.1, .int .i64 v.2.1, .int .i64 v.2.2]] w fun e w' => ∃ b' rows' V' sp' x, e = .returned (.int .i64 ((x : Nat) : Int)) ∧ Mk w w' b b' rows rows' V V' vl el wl sp sp' x p v := by
  apply f_euler_Forest_make.ok
  unfold f_euler_Forest_make.wp
  refine al_new fun w1 b1 e1 s1 hb1 g1 => al_new fun w2 b3 e3 s3 hb3 g3 => ?_
  have g13 := g1.trans (g3.mono (by omega))
  have h2 := h.below g13
  have hb1 := hb1.below g3
  have nF : ∀ {k}, Fe b k → k ≠ b1 ∧ k ≠ b3 := fun hk => by have := h.lt _ hk; omega
  have inF : b.F ∈ b.ix := by simp [EB.ix]
  refine hb_ldS (j := 4) h2.hf rfl ?_
  rcases List.eq_nil_or_concat sp with rfl | ⟨sp0, i, rfl⟩
  · refine sel_f (by simp) (drW_intro ?_)
    have h3 := h2.below (Below.refl _ _).drew
    have hb3d : HB w2.drew b3 #[.int .i64 v.1, .int .i64 v.2.1, .int .i64 v.2.2] 74 := hb3
    have hb1d : HB w2.drew b1 #[.bool p.1, .int .i64 p.2] 77 := hb1
    refine hb_ldP0 h3.hf rfl (hb_ldI0 hb3d rfl (hb_ldI (j := 1) hb3d rfl (hb_ldI (j := 2) hb3d rfl ((Make_ok h3.rope v.1 v.2.1 v.2.2 hv).mono ?_))))
    rintro e w4 ⟨r', rfl, hr4, n4, m4, k4⟩
    obtain ⟨h4, u4⟩ := h3.ropeS hr4 m4 k4
    have hb4 : HB w4 b1 #[.bool p.1, .int .i64 p.2] 77 := hb1d.keeps k4 fun hs => by
      rcases hs with hs | hs
      · exact (nF (k := b.r.R) (.inl (by simp [EB.ix]))).1 hs.symm
      · exact (nF (k := b.r.g) (.inl (by simp [EB.ix]))).1 hs.symm
    simp only [makeE, makeS, makeV, makeN, if_pos hn] at h4 n4 ⊢
    refine ⟨_, _, rfl, make_j0 h4 (x := b.r.n) (by unfold okN; omega) hb4 fun w5 h5 u5 _ => ⟨{ b with r := r' }, _, _, [], b.r.n, rfl, h5, rfl, ⟨rfl, rfl⟩, ?_, rfl, .inr ⟨rfl, rfl, rfl, rfl, n4⟩⟩⟩
    exact (((Upd.below g13).trans (Upd.below (Below.refl _ _).drew)).trans u4).trans u5
  · have e0 : sp0.concat i = sp0 ++ [i] := List.concat_eq_append
    rw [e0] at h h2 hsp ⊢
    have hlen : (sp0 ++ [i]).length = sp0.length + 1 := by simp
    rw [hlen]
    have hsl : sp0.length + 1 ≤ 9223372036854775807 := by
      have h1 := h.so.le
      rw [zs_len, hlen] at h1
      rcases h.so.2 with ⟨hv, _⟩ | ⟨g, cap, cur, hv, _, _, _, hm, _⟩
      · injection hv with _ _ h3; omega
      · injection hv with _ _ h3
        unfold maxLen at hm; omega
    refine sel_t (by simp) (drW_intro ?_)
    have h3 := h2.below (Below.refl _ _).drew
    have hb3d : HB w2.drew b3 #[.int .i64 v.1, .int .i64 v.2.1, .int .i64 v.2.2] 74 := hb3
    have hb1d : HB w2.drew b1 #[.bool p.1, .int .i64 p.2] 77 := hb1
    have hw : IntKind.i64.wrap (((sp0.length + 1 : Nat) : Int) - 1) = (sp0.length : Int) := by rw [w64_in (by omega)]; omega
    rw [hw]
    have c4 : (fC b (sp0 ++ [i]).length)[4]? = some (.slice b.A (sp0.length + 1) b.c) := by unfold fC; rw [hlen]; rfl
    obtain ⟨a, ha, hc⟩ := h3.so.reads sp0.length (by rw [zs_len, hlen]; omega)
    have hget : (zs (sp0 ++ [i]))[sp0.length]'(by rw [zs_len, hlen]; omega) = (i : Int) := by simp [zs]
    rw [hget] at hc
    refine hb_ldS (j := 4) h3.hf c4 (optB_some ha (req_intro (by simp; omega) (ldI_intro (by rw [Int.toNat_natCast, Nat.mul_one]; exact hc) ?_)))
    have hcap : sp0.length + 1 ≤ b.c := by have := h3.so.le; rw [zs_len, hlen] at this; exact this
    refine hb_ldS (j := 4) h3.hf c4 (req_intro (by simp; omega) ?_)
    rw [slA0, Nat.sub_zero, Nat.sub_zero, Int.toNat_natCast]
    refine hb_st h3.hf (j := 4) (by simp [fC]) fun w4 hf4 k4 => ?_
    have hf4 : HB w4 b.F (fC b sp0.length) TF := hf4
    obtain ⟨⟨f1, f2, f3, f4, f5⟩, _⟩ := h3.dd
    obtain ⟨u4, _, a2, a3, a4, a5, a6⟩ := h3.one k4 inF
    have h4 : EM w4 b rows V vl el wl sp0 := ⟨hf4, a2 (Ne.symm f1) (Ne.symm f2), a3 (Ne.symm f3), a4 (Ne.symm f4), a5 (Ne.symm f5), OwnI.pop (x := (i : Int)) (by rw [zs_app] at a6; exact a6), h.d, h.da, h.ds⟩
    have h5 := h4.below (Below.refl _ _).drew
    have nF1 := nF (k := b.F) (.inl inF)
    have hb34 : HB w4 b3 #[.int .i64 v.1, .int .i64 v.2.1, .int .i64 v.2.2] 74 := hb3d.keeps k4 fun e => nF1.2 e.symm
    have hb14 : HB w4 b1 #[.bool p.1, .int .i64 p.2] 77 := hb1d.keeps k4 fun e => nF1.1 e.symm
    have hb35 : HB w4.drew b3 #[.int .i64 v.1, .int .i64 v.2.1, .int .i64 v.2.2] 74 := hb34
    have hb15 : HB w4.drew b1 #[.bool p.1, .int .i64 p.2] 77 := hb14
    refine drW_intro (hb_ldP0 h5.hf rfl (hb_ldI0 hb35 rfl (hb_ldI (j := 1) hb35 rfl (hb_ldI (j := 2) hb35 rfl ((Set_ok h5.rope (i : Int) v.1 v.2.1 v.2.2 hv).mono ?_)))))
    rintro e w6 ⟨rfl, hr6, k6⟩
    obtain ⟨h6, u6⟩ := h5.ropeT hr6 k6
    have hb6 : HB w6 b1 #[.bool p.1, .int .i64 p.2] 77 := hb15.keeps k6 fun hs => by
      rcases hs with hs | hs
      · exact (nF (k := b.r.R) (.inl (by simp [EB.ix]))).1 hs.symm
      · exact (nF (k := b.r.g) (.inl (by simp [EB.ix]))).1 hs.symm
    have hi := hsp i (by simp)
    have bi : Bd b.r.n (i : Int) = false := by simp [Bd]; omega
    have eV : setV b.r.n V (i : Int) (v.1, v.2.1, v.2.2) = fun j => if j = i then v else V j := by unfold setV; rw [bi]; simp
    rw [eV] at h6
    refine ⟨_, rfl, make_j0 h6 (x := i) (by unfold okN; omega) hb6 fun w7 h7 u7 _ => ⟨b, _, _, sp0, i, rfl, h7, rfl, ⟨rfl, rfl⟩, ?_, rfl, .inl ⟨rfl, rfl, rfl⟩⟩⟩
    exact (((((Upd.below g13).trans (Upd.below (Below.refl _ _).drew)).trans u4).trans (Upd.below (Below.refl _ _).drew)).trans u6).trans u7
theorem drop_ok (h : EM w b rows V vl el wl sp) (hl : sp.length ≤ 1000000) {x : Nat} (hx : okN x) :
    Calls Try.prog 44 #[.pointer (some ⟨b.F, 0, none⟩), .int .i64 (x : Int)] w fun e w' => e = .returned (.tuple #[]) ∧ ∃ b', EM w' b' rows V vl el (delK wl x) (sp ++ [x]) ∧ b'.F = b.F ∧ b'.r = b.r ∧ Upd (Fe b) w w' (Fe b') := by
  apply f_euler_Forest_drop.ok
  unfold f_euler_Forest_drop.wp
  refine hb_ldM (j := 3) h.hf rfl (h.gw.del KTw hx fun w1 g1 k1 => ⟨rfl, ?_⟩)
  obtain ⟨h1, u1⟩ := h.mapW g1 k1
  have hB : b.r.B ≤ w1.heap.size := by have := h1.rope.lt; omega
  refine hb_ldS (j := 4) h1.hf rfl (put_in h1.so (by rw [zs_len]) hB (by rw [zs_len]; exact hl) fun A' c' w2 o2 k2 f2 => ?_)
  have e2 : zs sp ++ [(x : Int)] = zs (sp ++ [x]) := by rw [zs_app]; rfl
  rw [e2] at o2 ⊢
  rw [zs_len]
  have nA : ∀ {k}, k ∈ b.ix → ¬ Ob b.A k := fun hk ⟨a, ha, e⟩ => (h1.da a ha).1 (by rw [e]; exact hk)
  have hf2 := h1.hf.keeps k2 (nA (by simp [EB.ix]))
  refine hb_st hf2 (j := 4) (by simp [fC]) fun w3 hf3 k3 => ⟨rfl, ?_⟩
  obtain ⟨⟨f1, f2', f3, f4, f5⟩, _⟩ := h1.dd
  have ltF := hf2.lt
  have bA' := o2.block A' rfl
  have nA' : A'.block ∉ b.ix := fun hm => by
    rcases f2 with e | e
    · exact (h1.da A' e).1 hm
    · have := h1.lt _ (.inl hm); omega
  have kF : ∀ {k}, k ∈ b.ix → k ≠ b.F → ¬ (k = b.F) := fun _ h => h
  have kk : Keeps (fun k => Ob b.A k ∨ k = b.F) w1 w3 := (k2.mono fun k _ h => .inl h).trans (k3.mono fun k _ h => .inr h)
  have nk : ∀ {k}, k ∈ b.ix → k ≠ b.F → ¬ (Ob b.A k ∨ k = b.F) := fun h1 h2 h3 => h3.elim (nA h1) h2
  refine ⟨{ b with A := some A', c := c' }, ⟨hf3, ?_, h1.gv.keeps kk (nk (by simp [EB.ix]) (Ne.symm f3)), h1.ge.keeps kk (nk (by simp [EB.ix]) (Ne.symm f4)), h1.gw.keeps kk (nk (by simp [EB.ix]) (Ne.symm f5)), ?_, h1.d, ?_, h1.ds⟩, rfl, rfl, ?_⟩
  · exact h1.rope.keeps kk (nk (by simp [EB.ix]) (Ne.symm f1)) (nk (by simp [EB.ix]) (Ne.symm f2')) fun a ha hh => by
      rcases hh with ⟨a', ha', e⟩ | e
      · exact (h1.da a' ha').2 a ha e.symm
      · exact h1.ds a ha (by rw [e]; simp [EB.ix])
  · exact o2.keeps k3 fun a ha e => by
      injection ha with ha; subst ha
      exact nA' (by rw [e]; simp [EB.ix])
  · intro a ha
    injection ha with ha; subst ha
    refine ⟨nA', fun a' ha' e => ?_⟩
    rcases f2 with e' | e'
    · exact (h1.da A' e').2 a' ha' e
    · have := (h1.rope.sap a' ha').2.1; omega
  · refine u1.trans ⟨kk.mono fun k _ hk => ?_, ?_⟩
    · rcases hk with hk | rfl
      · exact .inr (.inl hk)
      · exact .inl (by simp [EB.ix])
    · rintro k (hk | ⟨a, ha, e⟩ | hk)
      · exact .inl (.inl hk)
      · injection ha with ha; subst ha; subst e
        rcases f2 with e' | e'
        · exact .inl (.inr (.inl ⟨A', e', rfl⟩))
        · exact .inr e'
      · exact .inl (.inr (.inr hk))
end
end Go.Proofs.Ytkkobfajahmfaaa.Rd
