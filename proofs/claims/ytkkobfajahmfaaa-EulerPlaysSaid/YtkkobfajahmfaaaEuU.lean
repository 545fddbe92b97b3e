/- A forest of closed walks by its vertices and edges: Joined, Link. Conditions: none. -/
import Derived.Test.YtkkobfajahmfaaaEuR
namespace Go.Proofs.Ytkkobfajahmfaaa.Rd
open Go.Dn Go.RowKit
set_option linter.unusedVariables false
set_option maxRecDepth 100000
def fTwo (mv : Nat) (x y : Int) (i : Nat) (v : Value) : Prop := match i with
  | 3 => v = .map (some mv) | 9 => v = .map (some mv) | 5 => v = .int .i64 x | 11 => v = .int .i64 y
  | _ => True
section
variable {w : World} {b : EB} {rows : List (List Nat)} {V : Nat → Int × Int × Int} {n : Nat} {vl : List (Int × Nat)} {el : List (Int × (Nat × Nat))} {wl : List (Nat × (Bool × Int))} {sp : List Nat} {T : List (List Nat)} {vs : List Int} {es : List E} {kv ke : Int → Bool} {nm : Pl → Nat}
theorem FI.bd (f : FI rows V n vl el wl sp T vs es kv ke nm) {p : Pl} (hp : okP vs es p) : Bd n ((nm p : Nat) : Int) = false := by
  have h1 := f.pos _ hp
  have h2 : nm p < n := f.fr.kn _ ⟨_, hp, rfl⟩
  simp [Bd]; omega
open Classical in
theorem FI.sameE (f : FI rows V n vl el wl sp T vs es kv ke nm) (rok : RowsOk n rows) {u v : Int} (hu : u ∈ vs) (hv : v ∈ vs) : Rd.sameE n rows ((nm (.v u) : Nat) : Int) ((nm (.v v) : Nat) : Int) = (decide (Cn es u v), 0) := by
  unfold Rd.sameE
  rw [f.bd (okV (es := es) hu), f.bd (okV (es := es) hv)]
  simp only [Bool.or_self, Bool.false_eq_true, if_false, Int.toNat_natCast, f.same rok hu hv]
theorem FI.lkv1 (f : FI rows V n vl el wl sp T vs es kv ke nm) {i : Int} (hi : i ∈ vs) : lkV vl i = nm (.v i) ∧ (((nm (.v i) : Nat) : Int) == 0) = false := by
  have := f.pos _ (okV (es := es) hi)
  exact ⟨by rw [f.lkv, if_pos hi], by simp; omega⟩
end

theorem fk {m : Nat} {me : Option Nat} (h : Value.map me = .map (some m)) : me = some m := by injection h
theorem fi {x y : Int} (h : Value.int .i64 x = .int .i64 y) : x = y := by injection h
def jC (vs : List Int) (es : List E) (u v : Int) (j : Bool) : Prop := u ∈ vs → v ∈ vs → (j = true ↔ Cn es u v)
section
variable {w : World} {Fp : Nat → Prop} {F : Nat} {vs : List Int} {es : List E} {kv ke : Int → Bool}
open Classical in
theorem Joined_ok' (h : RepE w Fp F vs es kv ke) {u v : Int} (hu : W64 u) (hv : W64 v) :
    Calls Try.prog 30 #[.pointer (some ⟨F, 0, none⟩), .int .i64 u, .int .i64 v] w fun e w' => e = .returned (.tuple #[.bool (decide (u ∈ vs ∧ v ∈ vs ∧ Cn es u v)), .int .i64 (if u ∈ vs ∧ v ∈ vs then 0 else 51)]) ∧ Below w.heap.size w w' := by
  obtain ⟨b, rows, V, vl, el, wl, sp, T, nm, rfl, hF, hm, hf⟩ := h
  apply f_euler_Forest_Joined.ok
  unfold f_euler_Forest_Joined.wp
  have b1 : Below w.heap.size w w.drew := (Below.refl _ _).drew
  have m1 := hm.below b1
  refine drW_intro ⟨f_euler_Forest_Joined.h1_ok .., fun x y => Below x.heap.size x y, fun i x _ => fTwo b.mv (lkV vl u) (lkV vl v) i x, fun _ => Below.refl _ _, fun x y z h1 h2 => h1.trans (h2.mono h1.size), fun i v x y _ _ h => h, ?_, ?_⟩
  · refine ⟨fun _ w4 g => hb_ldM (m1.below g).hf rfl ⟨Below.refl _ _, rfl⟩, fun _ w6 g me3 f3 => ?_, fun _ w4 g => hb_ldM (m1.below g).hf rfl ⟨Below.refl _ _, rfl⟩, fun _ w6 g me3 f3 => ?_, trivial⟩
    · rw [fk f3]; exact (m1.below g).lookV hu ⟨_, rfl, Below.refl _ _, rfl⟩
    · rw [fk f3]; exact (m1.below g).lookV hv ⟨_, rfl, Below.refl _ _, rfl⟩
  · intro w3 g me3 f3 xe5 f5 me9 f9 xe11 f11
    rw [fi f5, fi f11]
    have g1 := b1.trans g
    have m3 := m1.below g
    by_cases hin : u ∈ vs
    case neg => exact sel_t (by rw [(hf.lkv0 u).2 hin]; rfl) ⟨by simp [hin], g1⟩
    refine sel_f (by rw [(hf.lkv1 hin).1]; exact (hf.lkv1 hin).2) ?_
    by_cases hjn : v ∈ vs
    case neg => exact sel_t (by rw [(hf.lkv0 v).2 hjn]; rfl) ⟨by simp [hjn], g1⟩
    refine sel_f (by rw [(hf.lkv1 hjn).1]; exact (hf.lkv1 hjn).2) (hb_ldP0 m3.hf rfl ((Same_ok m3.rope _ _).mono ?_))
    rintro _ w4 ⟨rfl, g4⟩
    rw [(hf.lkv1 hin).1, (hf.lkv1 hjn).1, hf.sameE hm.rope.rok hin hjn]
    exact ⟨_, _, rfl, by simp [hin, hjn], g1.trans (g4.mono g1.size)⟩
/-! ### Link -/
theorem Rd_join (rows : List (List Nat)) (n x y : Nat) (bx : Bd n (x : Int) = false) (by' : Bd n (y : Int) = false) (hne : rowOf rows x ≠ rowOf rows y) : joinS n rows (x : Int) (y : Int) = joinR rows x y := by
  unfold joinS
  rw [bx, by']
  simp only [Bool.or_self, Bool.false_eq_true, if_false, Int.toNat_natCast]
  rw [if_neg hne]
/-- two rows joined -/
theorem join_step {b : EB} {rows : List (List Nat)} {V : Nat → Int × Int × Int} {vl : List (Int × Nat)} {el : List (Int × (Nat × Nat))} {wl : List (Nat × (Bool × Int))} {sp : List Nat} (h : EM w b rows V vl el wl sp) {la lb : List Nat} {R : List (List Nat)} {x y : Nat} (p : rows.Perm (la :: lb :: R)) (hx : x ∈ la) (hy : y ∈ lb) {K : Int → World → Prop}
    (hK : ∀ c w' rows', EM w' b rows' V vl el wl sp → rows'.Perm ((la ++ lb) :: R) → Upd (Fe b) w w' (Fe b) → K c w') :
    ldP w (⟨b.F, 0, none⟩ : Addr) fun q => Calls Try.prog 41 #[.pointer q, .int .i64 (x : Int), .int .i64 (y : Int)] w fun e w' => ∃ c : Int, e = .returned (.int .i64 c) ∧ K c w' := by
  refine hb_ldP0 h.hf rfl ((Join_ok h.rope (x : Int) (y : Int)).mono ?_)
  rintro e w3 ⟨rfl, hr3, k3⟩
  obtain ⟨h3, u3⟩ := h.ropeT hr3 k3
  have hx1 := rows_in h p hx
  have p' : rows.Perm (lb :: la :: R) := p.trans (.swap _ _ _)
  have hy1 := rows_in h p' hy
  have dj := (h.rope.rok.perm p).dj
  rw [List.pairwise_cons] at dj
  have hne : rowOf rows x ≠ rowOf rows y := by
    rw [hx1.2.2.1, hy1.2.2.1]
    rintro rfl
    exact dj.1 la (by simp) x hx hx
  rw [Rd_join rows _ x y hx1.2.2.2 hy1.2.2.2 hne] at h3
  exact ⟨_, rfl, hK _ _ _ h3 (join_perm h.rope.rok p hx hy) u3⟩
theorem Link_j0 {b : EB} {rows : List (List Nat)} {V : Nat → Int × Int × Int} {vl : List (Int × Nat)} {el : List (Int × (Nat × Nat))} {wl : List (Nat × (Bool × Int))} {sp : List Nat} (h : EM w b rows V vl el wl sp) {lu lv : List Nat} {R : List (List Nat)} {x y t k : Nat} (p : rows.Perm (lu :: lv :: [t] :: [k] :: R)) (hx : x ∈ lu) (hy : y ∈ lv) {Kr : Int → World → Prop}
    (hK : ∀ w' rows' A B, EM w' b rows' V vl el wl sp → Rot lu (x :: A) → Rot lv (y :: B) → rows'.Perm (((x :: A) ++ t :: ((y :: B) ++ [k])) :: R) → Upd (Fe b) w w' (Fe b) → Kr 0 w') :
    f_euler_Forest_Link.j0 ⟨b.F, 0, none⟩ (x : Int) (y : Int) (t : Int) (k : Int) w Kr := by
  unfold f_euler_Forest_Link.j0
  refine (turn_ok h p hx).mono ?_
  rintro _ w1 ⟨rfl, A, r1, h1, rA, p1, u1⟩
  refine ⟨rfl, (turn_ok h1 (p1.trans (.swap _ _ _)) hy).mono ?_⟩
  rintro _ w2 ⟨rfl, B, r2, h2, rB, p2, u2⟩
  refine ⟨rfl, ?_⟩
  have q2 : r2.Perm ((x :: A) :: [t] :: (y :: B) :: [k] :: R) := p2.trans ((List.Perm.swap _ _ _).trans ((List.Perm.swap _ _ _).cons _))
  refine join_step h2 q2 (by simp) (by simp) fun c3 w3 r3 h3 p3 u3 => ?_
  refine join_step h3 p3 (by simp) (by simp) fun c4 w4 r4 h4 p4 u4 => ?_
  refine join_step h4 p4 (by simp) (by simp) fun c5 w5 r5 h5 p5 u5 => ?_
  refine hK w5 r5 A B h5 rA rB ?_ ((((u1.trans u2).trans u3).trans u4).trans u5)
  have e : x :: A ++ [t] ++ y :: B ++ [k] = (x :: A) ++ t :: ((y :: B) ++ [k]) := by simp
  rw [← e]; exact p5
def keL (vs : List Int) (es : List E) (ke : Int → Bool) (e : E) (j : Bool) : Int → Bool := fun i => if linkC vs es e j = 0 ∧ i = e.id then false else ke i
open Classical in
theorem Link_ok (h : RepE w Fp F vs es kv ke) {e : E} (h1 : W64 e.id) (h2 : W64 e.u) (h3 : W64 e.v) (h0 : e.w = 0) :
    Calls Try.prog 12 #[.pointer (some ⟨F, 0, none⟩), .int .i64 e.id, .int .i64 e.u, .int .i64 e.v] w fun en w' => ∃ j Fp', jC vs es e.u e.v j ∧ en = .returned (.int .i64 (linkC vs es e j)) ∧ RepE w' Fp' F vs (linkEr vs es e j) kv (keL vs es ke e j) ∧ Upd Fp w w' Fp' := by
  have hw0 : ¬ (e.w < 0 ∨ 1099511627776 < e.w) := by rw [h0]; omega
  have same : ∀ {w' c j}, Below w.heap.size w w' → jC vs es e.u e.v j → linkC vs es e j = c → c ≠ 0 → ∃ j Fp', jC vs es e.u e.v j ∧ Ending.returned (.int .i64 c) = .returned (.int .i64 (linkC vs es e j)) ∧ RepE w' Fp' F vs (linkEr vs es e j) kv (keL vs es ke e j) ∧ Upd Fp w w' Fp' := by
    intro w' c j g hj hc h0
    have e1 : linkEr vs es e j = es := by unfold linkEr; rw [hc, if_neg h0]
    have e2 : keL vs es ke e j = ke := by funext i; unfold keL; rw [hc, if_neg (fun hh => h0 hh.1)]
    exact ⟨j, Fp, hj, by rw [hc], by rw [e1, e2]; exact h.below g, .below g⟩
  have anyj : ∃ j, jC vs es e.u e.v j := by
    by_cases hc : Cn es e.u e.v
    · exact ⟨true, fun _ _ => ⟨fun _ => hc, fun _ => rfl⟩⟩
    · exact ⟨false, fun _ _ => ⟨(fun hh => by cases hh), fun hh => absurd hh hc⟩⟩
  obtain ⟨b, rows, V, vl, el, wl, sp, T, nm, rfl, hF, hm, hf⟩ := h
  obtain ⟨j0, hj0⟩ := anyj
  apply f_euler_Forest_Link.ok
  unfold f_euler_Forest_Link.wp
  refine al_new fun w1 b1 e1 s1 hb1 g1 => ?_
  refine (badId_ok (hb1.ri [e.id, e.u, e.v] rfl) rfl (by simp)).mono ?_
  rintro _ w2 ⟨⟨c, rfl, hc⟩, rfl⟩
  have hc' : c = true ↔ badI e.id ∨ badI e.u ∨ badI e.v := by simpa using hc
  refine ⟨c, rfl, ?_⟩
  by_cases hb : badI e.id ∨ badI e.u ∨ badI e.v
  · exact sel_t (hc'.2 hb) (same g1 hj0 (by unfold linkC; rw [if_pos hb]) (by decide))
  refine sel_f (Bool.eq_false_iff.2 fun hh => hb (hc'.1 hh)) ?_
  have m1 := hm.below g1
  have hR : RepE w2 Fp b.F vs es kv ke := ⟨b, rows, V, vl, el, wl, sp, T, nm, rfl, hF, m1, hf⟩
  refine (Has_ok' hR h1).mono ?_
  rintro _ w3 ⟨rfl, g3⟩
  have g13 := g1.trans (g3.mono g1.size)
  refine ⟨_, rfl, ?_⟩
  by_cases hid : e.id ∈ es.map E.id
  · exact sel_t (by simpa using hid) (same g13 hj0 (by unfold linkC; rw [if_neg hb, if_neg hw0, if_pos hid]) (by decide))
  refine sel_f (decide_eq_false hid) ?_
  have m3 := m1.below g3
  have bd : Below w3.heap.size w3 w3.drew := (Below.refl _ _).drew
  have m4 := m3.below bd
  refine drW_intro ⟨f_euler_Forest_Link.h5_ok .., fun x y => Below x.heap.size x y, fun i x _ => fTwo b.mv (lkV vl e.u) (lkV vl e.v) i x, fun _ => Below.refl _ _, fun x y z h1 h2 => h1.trans (h2.mono h1.size), fun i v x y _ _ h => h, ?_, ?_⟩
  · refine ⟨fun _ w4 g => hb_ldM (m4.below g).hf rfl ⟨Below.refl _ _, rfl⟩, fun _ w6 g me3 f3 => ?_, fun _ w4 g => hb_ldM (m4.below g).hf rfl ⟨Below.refl _ _, rfl⟩, fun _ w6 g me3 f3 => ?_, trivial⟩
    · rw [fk f3]; exact (m4.below g).lookV h2 ⟨_, rfl, Below.refl _ _, rfl⟩
    · rw [fk f3]; exact (m4.below g).lookV h3 ⟨_, rfl, Below.refl _ _, rfl⟩
  intro w5 g me3 f3 xe5 f5 me9 f9 xe11 f11
  rw [fi f5, fi f11]
  have g15 := g13.trans ((bd.trans g).mono g13.size)
  have m5 := m4.below g
  by_cases hin : e.u ∈ vs
  case neg => exact sel_t (by rw [(hf.lkv0 _).2 hin]; rfl) (same g15 hj0 (by unfold linkC; rw [if_neg hb, if_neg hw0, if_neg hid, if_pos (fun hh => hin hh.1)]) (by decide))
  refine sel_f (by rw [(hf.lkv1 hin).1]; exact (hf.lkv1 hin).2) ?_
  by_cases hjn : e.v ∈ vs
  case neg => exact sel_t (by rw [(hf.lkv0 _).2 hjn]; rfl) (same g15 hj0 (by unfold linkC; rw [if_neg hb, if_neg hw0, if_neg hid, if_pos (fun hh => hjn hh.2)]) (by decide))
  refine sel_f (by rw [(hf.lkv1 hjn).1]; exact (hf.lkv1 hjn).2) (hb_ldP0 m5.hf rfl ((Same_ok m5.rope _ _).mono ?_))
  rintro _ w6 ⟨rfl, g6⟩
  rw [(hf.lkv1 hin).1, (hf.lkv1 hjn).1, hf.sameE hm.rope.rok hin hjn]
  refine ⟨_, _, rfl, ?_⟩
  have g16 := g15.trans (g6.mono g15.size)
  have hnn : ¬ ¬ (e.u ∈ vs ∧ e.v ∈ vs) := fun hh => hh ⟨hin, hjn⟩
  by_cases hcn : Cn es e.u e.v
  · exact sel_t (by simpa using hcn) (same (j := true) g16 (fun _ _ => ⟨fun _ => hcn, fun _ => rfl⟩) (by unfold linkC; rw [if_neg hb, if_neg hw0, if_neg hid, if_neg hnn, if_pos rfl]) (by decide))
  refine sel_f (decide_eq_false hcn) ?_
  have m6 := m5.below g6
  have hnb := hf.nb
  have rok := hm.rope.rok
  refine (make_ok m6 (by omega) (hf.spr rok) (true, e.id) (0, 0, 0) ⟨in64_small (by decide) (by decide), in64_small (by decide) (by decide), in64_small (by decide) (by decide)⟩).mono ?_
  rintro _ w7 ⟨b7, rows7, V7, sp7, x1, rfl, mk7⟩
  refine ⟨_, rfl, ?_⟩
  rw [← mk7.F]
  have m7 := mk7.em
  obtain ⟨fr1, nk1, p1, l1, nn1, cnt1, cnb1, sub1⟩ := hf.fr.make rok hm.rope.pos mk7.it
  have sp7r : ∀ x ∈ sp7, 0 < x ∧ x < b7.r.n := fun x hx => by have := hf.spr rok x (sub1 x hx); omega
  refine (make_ok m7 (by rcases cnb1 with hh | ⟨_, hh⟩ <;> omega) sp7r (true, e.id) (0, 0, 0) ⟨in64_small (by decide) (by decide), in64_small (by decide) (by decide), in64_small (by decide) (by decide)⟩).mono ?_
  rintro _ w8 ⟨b8, rows8, V8, sp8, x2, rfl, mk8⟩
  refine ⟨_, rfl, ?_⟩
  rw [← mk8.F]
  have m8 := mk8.em
  refine hb_ldM (j := 2) m8.hf rfl (m8.ge.upd KTe (x := e.id) h1 (v := (x1, x2)) fun w9 g9 k9 => ?_)
  obtain ⟨m9, u9⟩ := m8.mapE g9 k9
  have hne : rowOf rows (nm (.v e.u)) ≠ rowOf rows (nm (.v e.v)) := fun hh => hcn ((hf.same rok hin hjn).1 hh)
  obtain ⟨T0, pm, fin⟩ := hf.link rok hm.rope.pos (e := e) (fun hh => hb (.inl hh)) hid hin hjn hne mk7.it m7.rope.rok mk8.it
  refine Link_j0 m9 pm (hf.row rok (okV (es := es) hin)).2.1 (hf.row rok (okV (es := es) hjn)).2.1 fun w10 rows10 A B m10 rA rB p10 u10 => ?_
  intro _
  have f10 := fin A B rows10 rA rB p10
  have hz : linkC vs es e false = 0 := by unfold linkC; rw [if_neg hb, if_neg hw0, if_neg hid, if_neg hnn, if_neg (by decide)]
  have e1 : linkEr vs es e false = insE es e := by unfold linkEr; rw [if_pos hz]
  have e2 : keL vs es ke e false = fun i => if i = e.id then false else ke i := by funext i; unfold keL; simp [hz]
  refine ⟨false, Fe b8, fun _ _ => ⟨(fun hh => by cases hh), fun hh => absurd hh hcn⟩, by rw [hz], ?_, ?_⟩
  · rw [e1, e2]
    rw [mk8.V, mk7.V] at m10
    exact ⟨b8, _, _, _, _, _, _, _, _, by rw [mk8.F, mk7.F], fun _ => .rfl, m10, f10⟩
  · exact upd_iff hF ((((Upd.below g16).trans mk7.upd).trans mk8.upd).trans (u9.trans u10))
end
end Go.Proofs.Ytkkobfajahmfaaa.Rd
