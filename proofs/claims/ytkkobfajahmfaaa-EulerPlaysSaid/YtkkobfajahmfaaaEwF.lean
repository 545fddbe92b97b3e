/- What is told of two vertices, against the document. Conditions: none. -/
import Derived.Test.YtkkobfajahmfaaaEwA
import Derived.Test.YtkkobfajahmfaaaRdL5
namespace Go.Proofs.Ytkkobfajahmfaaa.Rd
open Go.Dn Go.RowKit
set_option linter.unusedVariables false
set_option linter.unusedSimpArgs false
set_option maxRecDepth 100000
abbrev TFr : TypeId := 43
theorem hdS_intro {S : World → Prop} {b j : Nat} {cs : Array Value} {t : TypeId} (h : ∀ w, S w → HB w b cs t) {A : Option Addr} {n c : Nat} (hj : cs[j]? = some (.slice A n c)) {K : Option Addr → Nat → Nat → Prop} (hk : K A n c) : hdS S ((⟨b, 0, none⟩ : Addr).add j) K := ⟨_, _, _, fun w hs => ((h w hs).cell j).trans hj, hk⟩
theorem hdS_intro0 {S : World → Prop} {b : Nat} {cs : Array Value} {t : TypeId} (h : ∀ w, S w → HB w b cs t) {A : Option Addr} {n c : Nat} (hj : cs[0]? = some (.slice A n c)) {K : Option Addr → Nat → Nat → Prop} (hk : K A n c) : hdS S (⟨b, 0, none⟩ : Addr) K := ⟨_, _, _, fun w hs => ((h w hs).cell 0).trans hj, hk⟩
theorem hdI_intro {S : World → Prop} {b j : Nat} {cs : Array Value} {t : TypeId} (h : ∀ w, S w → HB w b cs t) {x : Int} (hj : cs[j]? = some (.int .i64 x)) {K : Int → Prop} (hk : K x) : hdI S ((⟨b, 0, none⟩ : Addr).add j) .i64 K := ⟨_, fun w hs => ((h w hs).cell j).trans hj, hk⟩
theorem hd4 {S : World → Prop} {b : Nat} {s : RS} {t : TypeId} (h : ∀ w, S w → HB w b (rsC s) t) {K : Option Addr → Nat → Nat → Option Addr → Nat → Nat → Option Addr → Nat → Nat → Option Addr → Nat → Nat → Prop} (hk : K s.A0 s.n0 s.c0 s.A1 s.n1 s.c1 s.A2 s.n2 s.c2 s.A3 s.n3 s.c3) :
    hdS S (⟨b, 0, none⟩ : Addr) fun A0 n0 c0 => hdS S ((⟨b, 0, none⟩ : Addr).add 1) fun A1 n1 c1 => hdS S ((⟨b, 0, none⟩ : Addr).add 2) fun A2 n2 c2 => hdS S ((⟨b, 0, none⟩ : Addr).add 3) fun A3 n3 c3 => K A0 n0 c0 A1 n1 c1 A2 n2 c2 A3 n3 c3 :=
  hdS_intro0 h rfl (hdS_intro h (j := 1) rfl (hdS_intro h (j := 2) rfl (hdS_intro h (j := 3) rfl hk)))
/-- the forest's marks and the document's -/
structure MR (n : Nt) (kv ke : Int → Bool) (mv me : List Int) : Prop where
  v : mv.Nodup
  vi : ∀ x ∈ mv, x ∈ n.1
  vk : ∀ x ∈ n.1, (x ∈ mv ↔ kv x = true)
  e : me.Nodup
  ei : ∀ x ∈ me, x ∈ n.2.map E.id
  ek : ∀ x ∈ n.2.map E.id, (x ∈ me ↔ ke x = true)
theorem vO_in {vs : List Int} {es : List E} {u v : Int} (h : v ∈ vO vs es u) : v ∈ vs := (vO_mem.1 h).2.1
theorem SomeS.zero {l : List Int} {k : Int → Bool} {x : Int} (h : SomeS l k x) (hk : ∀ y ∈ l, k y = false) : x = 0 := by
  rcases h with ⟨h1, h2⟩ | ⟨h1, _⟩
  · rw [hk x h1] at h2; cases h2
  · exact h1
theorem SomeS.any {l m : List Int} {k : Int → Bool} {x : Int} (h : SomeS l k x) (hk : ∀ y ∈ l, (y ∈ m ↔ k y = true)) : (x ∈ l ∧ x ∈ m) ∨ (x = 0 ∧ ∀ y ∈ l, y ∉ m) := by
  rcases h with ⟨h1, h2⟩ | ⟨h1, h2⟩
  · exact .inl ⟨h1, (hk x h1).2 h2⟩
  · exact .inr ⟨h1, fun y hy hm => by have := (hk y hy).1 hm; rw [h2 y hy] at this; cases this⟩
section
variable {w0 w : World} {Fp : Nat → Prop} {F : Nat} {n : Nt} {kv ke : Int → Bool} {s : RS} {mv me : List Int}
theorem tells_ok (h : L2 w0 w Fp F n kv ke s n mv me) (mr : MR n kv ke mv me) {u v : Int} (hu : W64 u) (hv : W64 v) :
    Calls Try.prog 28 #[.pointer (some ⟨F, 0, none⟩), .agg (rsC s), .int .i64 u, .int .i64 v] w fun e w' => e = .returned (.bool true) ∧ Below w.heap.size w w' := by
  have g := h.f.ge
  have vl := h.r.vl
  apply f_law16_tells.ok
  unfold f_law16_tells.wp
  refine al_new fun w1 b1 e1 s1 h1 g1 => ?_
  have h1 : HB w1 b1 (rsC s) TFr := h1
  have H1 := h.below g1
  refine hb_ldS0 h1 rfl (hasI_step H1.r.v H1.r.nv (by omega) ?_)
  refine verts_step H1.f hu fun w2 A2 c2 f2 d2 g2 => edges_step f2 hu fun w3 A3 c3 f3 d3 g3 => size_step f3 hu fun w4 f4 g4 => someV_step f4 hu fun w5 x f5 hx g5 => someE_step f5 hu fun w6 y f6 hy g6 => joined_step f6 hu hv fun w7 f7 g7 => ?_
  have b2 := g1.trans (g2.mono g1.size)
  have b3 := b2.trans (g3.mono b2.size)
  have b4 := b3.trans (g4.mono b3.size)
  have b5 := b4.trans (g5.mono b4.size)
  have b6 := b5.trans (g6.mono b5.size)
  have b7 := b6.trans (g7.mono b6.size)
  by_cases hin : u ∈ n.1
  case neg =>
    have ev : vO n.1 n.2 u = [] := by unfold vO; rw [if_neg hin]
    have ee : eO n.1 n.2 u = [] := by unfold eO; rw [if_neg hin]
    have ec : cdV n.1 u = 51 := by unfold cdV; rw [if_neg hin]
    rw [ev] at hx
    rw [ee] at hy
    have ex := hx.zero (by simp)
    have ey := hy.zero (by simp)
    rw [ev, ee, ec, ex, ey, if_neg (fun hh => hin hh.1)]
    exact sel_t (by simp [hin]) (sel_t rfl (sel_t rfl (sel_t rfl (sel_t rfl (sel_t rfl (sel_t (by simp) (sel_t rfl (sel_t rfl (sel_t rfl (sel_t rfl (sel_t rfl ⟨rfl, b7⟩)))))))))))
  have ev : vO n.1 n.2 u = cmpV n.1 n.2 u := by unfold vO; rw [if_pos hin]
  have ee : eO n.1 n.2 u = cmpE n.2 u := by unfold eO; rw [if_pos hin]
  have ec : cdV n.1 u = 0 := by unfold cdV; rw [if_pos hin]
  have va := vO_le g u
  have vb := eO_le g u
  have hxa := hx.any (m := mv) fun z hz => mr.vk z (vO_in hz)
  have hya := hy.any (m := me) fun z hz => mr.ek z (eO_id hz)
  refine sel_f (by simp [hin]) (drW_intro ⟨fun w' => HB w' b1 (rsC s) TFr, ?_⟩)
  have h7 : HB w7.drew b1 (rsC s) TFr := (((((((h1.below g2).below g3).below g4).below g5).below g6).below g7)).below ((Below.refl _ _).drew)
  have bd : Below w.heap.size w w7.drew := b7.trans ((Below.refl _ _).drew)
  have H7 := h.below bd
  refine ⟨h7, hd4 (fun _ h => h) (hd4 (fun _ h => h) ((RVerts_ok H7.r g hin).mono ?_))⟩
  rintro _ w8 ⟨A8, c8, rfl, r8, g8⟩
  have b8 := bd.trans (g8.mono bd.size)
  have h8 := h7.below g8
  refine ⟨_, _, _, rfl, h8, (REdges_ok (h.below b8).r g hin).mono ?_⟩
  rintro _ w9 ⟨A9, c9, rfl, r9, g9⟩
  have b9 := b8.trans (g9.mono b8.size)
  have h9 := h8.below g9
  rw [← ev] at r8 ⊢
  rw [← ee] at r9 ⊢
  have d29 : ∀ {A l}, RI w7 A l → RI w9 A l := fun r => ((r.belw ((Below.refl _ _).drew)).belw g8).belw g9
  refine ⟨_, _, _, rfl, ?_⟩
  unfold f_law16_tells.j0
  rw [ec]
  refine sel_f rfl (sel_f rfl (sel_f rfl (sel_f rfl (sel_f rfl ?_))))
  refine same_step (d29 (((((d2.ri.belw g3).belw g4).belw g5).belw g6).belw g7)) rfl (r8.belw g9) rfl va fun w10 g10 => sel_f (by simp) ?_
  refine same_step ((d29 ((((d3.ri.belw g4).belw g5).belw g6).belw g7)).belw g10) rfl (r9.belw g10) rfl vb fun w11 g11 => sel_f (by simp) (sel_f (by simp) ?_)
  have b10 := b9.trans (g10.mono b9.size)
  have b11 := b10.trans (g11.mono b10.size)
  have h11 := (h9.below g10).below g11
  have H11 := h.below b11
  refine hb_ldS h11 (j := 2) rfl ((Any_ok (((r8.belw g9).belw g10).belw g11) rfl H11.r.m2 H11.r.n2 (by omega) H11.r.l2 hxa).mono ?_)
  rintro _ _ ⟨rfl, rfl⟩
  refine ⟨_, rfl, sel_f rfl (hb_ldS h11 (j := 3) rfl ((Any_ok ((r9.belw g10).belw g11) rfl H11.r.m3 H11.r.n3 (by omega) H11.r.l3 hya).mono ?_))⟩
  rintro _ _ ⟨rfl, rfl⟩
  refine ⟨_, rfl, sel_f rfl (hb_ldS0 h11 rfl (hasI_step H11.r.v H11.r.nv (by omega) ?_))⟩
  by_cases hjn : v ∈ n.1
  · rw [if_pos ⟨hin, hjn⟩]
    refine sel_f (by simp [hjn]) (sel_t rfl (hasI_step (((r8.belw g9).belw g10).belw g11) rfl (by omega) ?_))
    exact fun _ => ⟨by simp, b11⟩
  · rw [if_neg (fun hh => hjn hh.2)]
    have : v ∉ vO n.1 n.2 u := fun hh => hjn (vO_in hh)
    exact sel_t (by simp [hjn]) (sel_t (by simp [this]) fun _ => ⟨rfl, b11⟩)
end
end Go.Proofs.Ytkkobfajahmfaaa.Rd
