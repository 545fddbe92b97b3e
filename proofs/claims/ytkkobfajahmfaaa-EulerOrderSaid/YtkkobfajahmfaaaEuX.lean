/- A forest within a law: what it holds, steps. Conditions: none. -/
import Derived.Test.YtkkobfajahmfaaaEuW
namespace Go.Proofs.Ytkkobfajahmfaaa.Rd
open Go.Dn Go.RowKit
set_option linter.unusedVariables false
set_option maxRecDepth 100000
/-- what all forests hold of their vertices and edges -/
structure GE (vs : List Int) (es : List E) : Prop where
  vss : vs.Pairwise (· < ·)
  ess : (es.map E.id).Pairwise (· < ·)
  vr : ∀ v ∈ vs, ¬ badI v
  er : ∀ e ∈ es, ¬ badI e.id
  vlen : vs.length ≤ 2048
  elen : es.length ≤ 2048
  ends : ∀ e ∈ es, e.u ∈ vs ∧ e.v ∈ vs
  ln : ∀ u ∈ vs, (cmpV vs es u).length = (cmpE es u).length + 1
theorem RepE.ge {w : World} {Fp : Nat → Prop} {F : Nat} {vs : List Int} {es : List E} {kv ke : Int → Bool} (h : RepE w Fp F vs es kv ke) : GE vs es := by
  obtain ⟨b, rows, V, vl, el, wl, sp, T, nm, h1, h2, h3, h4⟩ := h
  exact ⟨h4.vss, h4.ess, h4.vr, h4.er, h4.vlen, by have := h4.tc; have := h4.vlen; omega, h4.N.ends, fun u hu => h4.lenE h3.rope.rok hu⟩
theorem nodup_lt {l : List Int} (h : l.Pairwise (· < ·)) : l.Nodup := h.imp fun {a b} h => by omega
theorem GE.rg {vs : List Int} {es : List E} (h : GE vs es) : RG vs es := ⟨nodup_lt h.vss, h.ends, nodup_lt h.ess⟩
theorem GE.vW {vs : List Int} {es : List E} (h : GE vs es) {v : Int} (hv : v ∈ vs) : W64 v := by
  have := h.vr v hv
  unfold badI at this; unfold W64; omega
theorem GE.eW {vs : List Int} {es : List E} (h : GE vs es) {i : Int} (hv : i ∈ es.map E.id) : W64 i := by
  obtain ⟨e, he, rfl⟩ := List.mem_map.1 hv
  have := h.er e he
  unfold badI at this; unfold W64; omega
theorem jn_cn {es : List E} (h : (es.map E.id).Nodup) {u v : Int} : Jn es u v ↔ Cn es u v :=
  ⟨fun ⟨p, hp, _⟩ => ⟨p, hp⟩, fun ⟨p, hp⟩ => by obtain ⟨q, hq, nq⟩ := hp.red (fun e he e' he' hid => ids_inj h he he' hid); exact ⟨q, hq, nq⟩⟩
/-- a row that a law holds beside the forest -/
structure Hd (w : World) (Fp : Nat → Prop) (A : Option Addr) (l : List Int) : Prop where
  ri : RI w A l
  nF : ∀ a, A = some a → ¬ Fp a.block
  lt : ∀ a, A = some a → a.block < w.heap.size
structure LF (w0 w : World) (Fp : Nat → Prop) (F : Nat) (vs : List Int) (es : List E) (kv ke : Int → Bool) : Prop where
  rep : RepE w Fp F vs es kv ke
  lo : ∀ k, Fp k → w0.heap.size ≤ k
  bel : Below w0.heap.size w0 w
noncomputable def vO (vs : List Int) (es : List E) (u : Int) : List Int := if u ∈ vs then cmpV vs es u else []
noncomputable def eO (vs : List Int) (es : List E) (u : Int) : List Int := if u ∈ vs then cmpE es u else []
def cdV (vs : List Int) (u : Int) : Int := if u ∈ vs then 0 else 51
theorem cmpV_le {vs : List Int} {es : List E} (u : Int) : (cmpV vs es u).length ≤ vs.length := List.length_filter_le _ _
theorem cmpE_le {es : List E} (u : Int) : (cmpE es u).length ≤ es.length := by unfold cmpE; rw [List.length_map]; exact List.length_filter_le _ _
section
variable {w0 w w' : World} {Fp Fp' : Nat → Prop} {F : Nat} {vs vs' : List Int} {es es' : List E} {kv ke kv' ke' : Int → Bool} {A : Option Addr} {l : List Int}
theorem vO_le (g : GE vs es) (u : Int) : (vO vs es u).length ≤ 2048 := by
  unfold vO; split
  · exact Nat.le_trans (cmpV_le u) g.vlen
  · simp
theorem eO_le (g : GE vs es) (u : Int) : (eO vs es u).length ≤ 2048 := by
  unfold eO; split
  · exact Nat.le_trans (cmpE_le u) g.elen
  · simp
theorem Hd.call (h : Hd w Fp A l) (u : Upd Fp w w' Fp') : Hd w' Fp' A l :=
  ⟨h.ri.keeps u.kp h.nF, fun a ha hf => (u.fr _ hf).elim (h.nF a ha) fun h2 => by have := h.lt a ha; omega, fun a ha => Nat.lt_of_lt_of_le (h.lt a ha) u.kp.size⟩
theorem Hd.below (h : Hd w Fp A l) (hb : Below w.heap.size w w') : Hd w' Fp A l := h.call (.below hb)
theorem Hd.sub (h : Hd w Fp A l) {B e c : Nat} {w' : World} {A' : Option Addr} {l' : List Int} (o : OwnI w' w.heap.size TI A' c l') (hF : ∀ k, Fp k → k < w.heap.size) : Hd w' Fp A' l' :=
  ⟨o.reads, fun a ha hf => by have := (o.block a ha).1; have := hF _ hf; omega, fun a ha => (o.block a ha).2⟩
theorem LF.own (h : LF w0 w Fp F vs es kv ke) {c : Nat} {A' : Option Addr} {l' : List Int} (o : OwnI w' w.heap.size TI A' c l') : Hd w' Fp A' l' :=
  ⟨o.reads, fun a ha hf => by have := (o.block a ha).1; have := h.rep.lt _ hf; omega, fun a ha => (o.block a ha).2⟩
theorem LF.call (h : LF w0 w Fp F vs es kv ke) (r : RepE w' Fp' F vs' es' kv' ke') (u : Upd Fp w w' Fp') : LF w0 w' Fp' F vs' es' kv' ke' :=
  ⟨r, fun k hk => by
    rcases u.fr k hk with h1 | h1
    · exact h.lo k h1
    · exact Nat.le_trans h.bel.size h1, h.bel.trans (u.kp.below h.bel.size fun k hk hf => by have := h.lo k hf; omega)⟩
theorem LF.below (h : LF w0 w Fp F vs es kv ke) (hb : Below w.heap.size w w') : LF w0 w' Fp F vs es kv ke := ⟨h.rep.below hb, h.lo, h.bel.trans (hb.mono h.bel.size)⟩
theorem LF.ge (h : LF w0 w Fp F vs es kv ke) : GE vs es := h.rep.ge
/-! ### steps -/
theorem new_step {w0 w : World} (hb : Below w0.heap.size w0 w) {A : Option Addr} {sl : List Int} {n c : Nat} (hr : RI w A sl) (hn : n = sl.length) (hc0 : A = none → sl.length = 0 ∧ c = 0) (hlen : sl.length ≤ 17592186044416) {Q : Option Addr → World → Prop}
    (hQ : ∀ w' F Fp, LF w0 w' Fp F [] [] nof nof → Below w.heap.size w w' → (∀ k, Fp k → w.heap.size ≤ k) → Q (some ⟨F, 0, none⟩) w') :
    Calls Try.prog 19 #[.slice A n c] w fun e w' => ∃ p : Option Addr, e = .returned (.pointer p) ∧ Q p w' := by
  refine (New_ok' hr hn hc0 hlen).mono ?_
  rintro e w1 ⟨F, Fp, rfl, hr, hF, hb1⟩
  exact ⟨_, rfl, hQ w1 F Fp ⟨hr, fun k hk => Nat.le_trans hb.size (hF k hk), hb.trans (hb1.mono hb.size)⟩ hb1 hF⟩
theorem addV_step (h : LF w0 w Fp F vs es kv ke) {v : Int} (hv : W64 v) {Q : Int → World → Prop} (hQ : ∀ w' Fp', LF w0 w' Fp' F (addVr vs v) es (kvA vs kv v) ke → Upd Fp w w' Fp' → Q (addVC vs v) w') :
    Calls Try.prog 24 #[.pointer (some ⟨F, 0, none⟩), .int .i64 v] w fun e w' => ∃ x : Int, e = .returned (.int .i64 x) ∧ Q x w' := by
  refine (AddV_ok h.rep hv).mono ?_
  rintro e w1 ⟨F', rfl, r1, u1⟩
  exact ⟨_, rfl, hQ w1 F' (h.call r1 u1) u1⟩
theorem delV_step (h : LF w0 w Fp F vs es kv ke) {v : Int} (hv : W64 v) {Q : Int → World → Prop} (hQ : ∀ w' Fp', LF w0 w' Fp' F (delVr vs es v) es kv ke → Upd Fp w w' Fp' → Q (delVC vs es v) w') :
    Calls Try.prog 48 #[.pointer (some ⟨F, 0, none⟩), .int .i64 v] w fun e w' => ∃ x : Int, e = .returned (.int .i64 x) ∧ Q x w' := by
  refine (DelV_ok h.rep hv).mono ?_
  rintro e w1 ⟨F', rfl, r1, u1⟩
  exact ⟨_, rfl, hQ w1 F' (h.call r1 u1) u1⟩
theorem link_step (h : LF w0 w Fp F vs es kv ke) {e : E} (h1 : W64 e.id) (h2 : W64 e.u) (h3 : W64 e.v) (h0 : e.w = 0) {Q : Int → World → Prop} (hQ : ∀ w' Fp' j, jC vs es e.u e.v j → LF w0 w' Fp' F vs (linkEr vs es e j) kv (keL vs es ke e j) → Upd Fp w w' Fp' → Q (linkC vs es e j) w') :
    Calls Try.prog 12 #[.pointer (some ⟨F, 0, none⟩), .int .i64 e.id, .int .i64 e.u, .int .i64 e.v] w fun en w' => ∃ x : Int, en = .returned (.int .i64 x) ∧ Q x w' := by
  refine (Link_ok h.rep h1 h2 h3 h0).mono ?_
  rintro _ w1 ⟨j, F', hj, rfl, r1, u1⟩
  exact ⟨_, rfl, hQ w1 F' j hj (h.call r1 u1) u1⟩
theorem cut_step (h : LF w0 w Fp F vs es kv ke) {i : Int} (hi : W64 i) {Q : Int → World → Prop} (hQ : ∀ w' Fp', LF w0 w' Fp' F vs (cutEr es i) kv ke → Upd Fp w w' Fp' → Q (cutC es i) w') :
    Calls Try.prog 17 #[.pointer (some ⟨F, 0, none⟩), .int .i64 i] w fun en w' => ∃ x : Int, en = .returned (.int .i64 x) ∧ Q x w' := by
  refine (Cut_ok' h.rep hi).mono ?_
  rintro _ w1 ⟨F', rfl, r1, u1⟩
  exact ⟨_, rfl, hQ w1 F' (h.call r1 u1) u1⟩
theorem markV_step (h : LF w0 w Fp F vs es kv ke) {v : Int} (hv : W64 v) (on : Bool) {Q : Int → World → Prop} (hQ : ∀ w', LF w0 w' Fp F vs es (kvM vs kv v on) ke → Upd Fp w w' Fp → Q (if v ∈ vs then 0 else 51) w') :
    Calls Try.prog 34 #[.pointer (some ⟨F, 0, none⟩), .int .i64 v, .bool on] w fun en w' => ∃ x : Int, en = .returned (.int .i64 x) ∧ Q x w' := by
  refine (MarkV_ok h.rep hv on).mono ?_
  rintro _ w1 ⟨rfl, r1, u1⟩
  exact ⟨_, rfl, hQ w1 (h.call r1 u1) u1⟩
theorem markE_step (h : LF w0 w Fp F vs es kv ke) {i : Int} (hi : W64 i) (on : Bool) {Q : Int → World → Prop} (hQ : ∀ w', LF w0 w' Fp F vs es kv (keM es ke i on) → Upd Fp w w' Fp → Q (if i ∈ es.map E.id then 0 else 152) w') :
    Calls Try.prog 31 #[.pointer (some ⟨F, 0, none⟩), .int .i64 i, .bool on] w fun en w' => ∃ x : Int, en = .returned (.int .i64 x) ∧ Q x w' := by
  refine (MarkE_ok h.rep hi on).mono ?_
  rintro _ w1 ⟨rfl, r1, u1⟩
  exact ⟨_, rfl, hQ w1 (h.call r1 u1) u1⟩
theorem verts_step (h : LF w0 w Fp F vs es kv ke) {u : Int} (hu : W64 u) {Q : Option Addr → Nat → Nat → Int → World → Prop} (hQ : ∀ w' A c, LF w0 w' Fp F vs es kv ke → Hd w' Fp A (vO vs es u) → Below w.heap.size w w' → Q A (vO vs es u).length c (cdV vs u) w') :
    Calls Try.prog 10 #[.pointer (some ⟨F, 0, none⟩), .int .i64 u] w fun e w' => ∃ (A : Option Addr) (n c : Nat) (x : Int), e = .returned (.tuple #[.slice A n c, .int .i64 x]) ∧ Q A n c x w' := by
  refine (Verts_ok' h.rep hu).mono ?_
  rintro _ w1 ⟨A, c, out, rfl, o, ho, g⟩
  have ho : out = vO vs es u := ho
  subst ho
  exact ⟨_, _, _, _, rfl, hQ w1 A c (h.below g) (h.own o) g⟩
theorem edges_step (h : LF w0 w Fp F vs es kv ke) {u : Int} (hu : W64 u) {Q : Option Addr → Nat → Nat → Int → World → Prop} (hQ : ∀ w' A c, LF w0 w' Fp F vs es kv ke → Hd w' Fp A (eO vs es u) → Below w.heap.size w w' → Q A (eO vs es u).length c (cdV vs u) w') :
    Calls Try.prog 11 #[.pointer (some ⟨F, 0, none⟩), .int .i64 u] w fun e w' => ∃ (A : Option Addr) (n c : Nat) (x : Int), e = .returned (.tuple #[.slice A n c, .int .i64 x]) ∧ Q A n c x w' := by
  refine (Edges_ok' h.rep hu).mono ?_
  rintro _ w1 ⟨A, c, out, rfl, o, ho, g⟩
  have ho : out = eO vs es u := ho
  subst ho
  exact ⟨_, _, _, _, rfl, hQ w1 A c (h.below g) (h.own o) g⟩
theorem size_step (h : LF w0 w Fp F vs es kv ke) {u : Int} (hu : W64 u) {Q : Int → Int → World → Prop} (hQ : ∀ w', LF w0 w' Fp F vs es kv ke → Below w.heap.size w w' → Q ((vO vs es u).length : Int) (cdV vs u) w') :
    Calls Try.prog 29 #[.pointer (some ⟨F, 0, none⟩), .int .i64 u] w fun e w' => ∃ (x y : Int), e = .returned (.tuple #[.int .i64 x, .int .i64 y]) ∧ Q x y w' := by
  refine (FSize_ok h.rep hu).mono ?_
  rintro _ w1 ⟨rfl, g⟩
  have e1 : (if u ∈ vs then ((cmpV vs es u).length : Int) else 0) = ((vO vs es u).length : Int) := by unfold vO; split <;> simp
  rw [e1]
  exact ⟨_, _, rfl, hQ w1 (h.below g) g⟩
theorem someV_step (h : LF w0 w Fp F vs es kv ke) {u : Int} (hu : W64 u) {Q : Int → Int → World → Prop} (hQ : ∀ w' x, LF w0 w' Fp F vs es kv ke → SomeS (vO vs es u) kv x → Below w.heap.size w w' → Q x (cdV vs u) w') :
    Calls Try.prog 33 #[.pointer (some ⟨F, 0, none⟩), .int .i64 u] w fun e w' => ∃ (x y : Int), e = .returned (.tuple #[.int .i64 x, .int .i64 y]) ∧ Q x y w' := by
  refine (SomeV_ok h.rep hu).mono ?_
  rintro _ w1 ⟨x, rfl, h1, h2, g⟩
  refine ⟨_, _, rfl, hQ w1 x (h.below g) ?_ g⟩
  unfold vO
  split
  · rename_i hin; exact h1 hin
  · rename_i hin; exact .inr ⟨h2 hin, by simp⟩
theorem someE_step (h : LF w0 w Fp F vs es kv ke) {u : Int} (hu : W64 u) {Q : Int → Int → World → Prop} (hQ : ∀ w' x, LF w0 w' Fp F vs es kv ke → SomeS (eO vs es u) ke x → Below w.heap.size w w' → Q x (cdV vs u) w') :
    Calls Try.prog 32 #[.pointer (some ⟨F, 0, none⟩), .int .i64 u] w fun e w' => ∃ (x y : Int), e = .returned (.tuple #[.int .i64 x, .int .i64 y]) ∧ Q x y w' := by
  refine (SomeE_ok h.rep hu).mono ?_
  rintro _ w1 ⟨x, rfl, h1, h2, g⟩
  refine ⟨_, _, rfl, hQ w1 x (h.below g) ?_ g⟩
  unfold eO
  split
  · rename_i hin; exact h1 hin
  · rename_i hin; exact .inr ⟨h2 hin, by simp⟩
open Classical in
theorem joined_step (h : LF w0 w Fp F vs es kv ke) {u v : Int} (hu : W64 u) (hv : W64 v) {Q : Bool → Int → World → Prop} (hQ : ∀ w', LF w0 w' Fp F vs es kv ke → Below w.heap.size w w' → Q (decide (v ∈ vO vs es u)) (if u ∈ vs ∧ v ∈ vs then 0 else 51) w') :
    Calls Try.prog 30 #[.pointer (some ⟨F, 0, none⟩), .int .i64 u, .int .i64 v] w fun e w' => ∃ (x : Bool) (y : Int), e = .returned (.tuple #[.bool x, .int .i64 y]) ∧ Q x y w' := by
  refine (Joined_ok' h.rep hu hv).mono ?_
  rintro _ w1 ⟨rfl, g⟩
  have e1 : decide (u ∈ vs ∧ v ∈ vs ∧ Cn es u v) = decide (v ∈ vO vs es u) := by
    unfold vO
    by_cases hin : u ∈ vs
    · rw [if_pos hin]; simp [cmpV_mem, hin]
    · rw [if_neg hin]; simp [hin]
  rw [e1]
  exact ⟨_, _, rfl, hQ w1 (h.below g) g⟩
theorem has_step (h : LF w0 w Fp F vs es kv ke) {i : Int} (hi : W64 i) {Q : Bool → World → Prop} (hQ : ∀ w', LF w0 w' Fp F vs es kv ke → Below w.heap.size w w' → Q (decide (i ∈ es.map E.id)) w') :
    Calls Try.prog 18 #[.pointer (some ⟨F, 0, none⟩), .int .i64 i] w fun e w' => ∃ x : Bool, e = .returned (.bool x) ∧ Q x w' := by
  refine (Has_ok' h.rep hi).mono ?_
  rintro _ w1 ⟨rfl, g⟩
  exact ⟨_, rfl, hQ w1 (h.below g) g⟩
theorem len_step (h : LF w0 w Fp F vs es kv ke) {Q : Int → World → Prop} (hQ : Q (vs.length : Int) w) :
    Calls Try.prog 25 #[.pointer (some ⟨F, 0, none⟩)] w fun e w' => ∃ x : Int, e = .returned (.int .i64 x) ∧ Q x w' := by
  refine (Len_ok h.rep).mono ?_
  rintro _ w1 ⟨rfl, rfl⟩
  exact ⟨_, rfl, hQ⟩
/-! ### the plain words on rows -/
theorem same_step {w : World} {A1 A2 : Option Addr} {l1 l2 : List Int} {n1 n2 c1 c2 : Nat} (r1 : RI w A1 l1) (e1 : n1 = l1.length) (r2 : RI w A2 l2) (e2 : n2 = l2.length) (hl : l1.length ≤ 2048) {Q : Bool → World → Prop} (hQ : ∀ w', Below w.heap.size w w' → Q (decide (l1 = l2)) w') :
    Calls Try.prog 13 #[.slice A1 n1 c1, .slice A2 n2 c2] w fun e w' => ∃ b : Bool, e = .returned (.bool b) ∧ Q b w' := by
  refine (SameInts_ok r1 e1 r2 e2 (by omega)).mono ?_
  rintro _ w1 ⟨rfl, g⟩
  exact ⟨_, rfl, hQ w1 g⟩
theorem hasI_step {w : World} {A : Option Addr} {n c : Nat} {l : List Int} (r : RI w A l) (hn : n = l.length) (hl : l.length ≤ 4096) {x : Int} {Q : Bool → World → Prop} (hQ : Q (decide (x ∈ l)) w) :
    Calls Try.prog 15 #[.slice A n c, .int .i64 x] w fun e w' => ∃ b : Bool, e = .returned (.bool b) ∧ Q b w' := by
  refine (Has_ok r hn (by omega) x).mono ?_
  rintro _ w1 ⟨rfl, rfl⟩
  exact ⟨_, rfl, hQ⟩
end
end Go.Proofs.Ytkkobfajahmfaaa.Rd
