/- A forest of closed walks by its vertices and edges: SomeV, SomeE, New. Conditions: none. -/
import Derived.Test.YtkkobfajahmfaaaEuV
namespace Go.Proofs.Ytkkobfajahmfaaa.Rd
open Go.Dn Go.RowKit
set_option linter.unusedVariables false
set_option maxRecDepth 100000
/-- one of a list that has something, or 0 where none has -/
def SomeS (l : List Int) (k : Int → Bool) (x : Int) : Prop := (x ∈ l ∧ k x = true) ∨ (x = 0 ∧ ∀ y ∈ l, k y = false)
section
variable {rows : List (List Nat)} {V : Nat → Int × Int × Int} {n : Nat} {vl : List (Int × Nat)} {el : List (Int × (Nat × Nat))} {wl : List (Nat × (Bool × Int))} {sp : List Nat} {T : List (List Nat)} {vs : List Int} {es : List E} {kv ke : Int → Bool} {nm : Pl → Nat}
theorem FI.someV (f : FI rows V n vl el wl sp T vs es kv ke nm) (rok : RowsOk n rows) {u : Int} (hu : u ∈ vs) : SomeS (cmpV vs es u) kv (lkW wl (firstMV V (rowOf rows (nm (.v u))))).2 ∧ firstMV V (rowOf rows (nm (.v u))) ≤ n := by
  have hrow := f.row rok (okV (es := es) hu)
  unfold firstMV
  cases hf : (rowOf rows (nm (.v u))).find? fun i => decide ((V i).2.1 > 0) with
  | none =>
    rw [List.find?_eq_none] at hf
    simp only [Option.getD_none]
    refine ⟨.inr ⟨by unfold lkW; rw [f.lz]; rfl, fun y hy => ?_⟩, by omega⟩
    obtain ⟨hy1, hy2⟩ := cmpV_mem.1 hy
    have e := (f.same rok hu hy1).2 hy2
    have := hf (nm (.v y)) (by rw [e]; exact (f.row rok (okV (es := es) hy1)).2.1)
    rw [f.mkV y hy1] at this
    cases hk : kv y with
    | false => rfl
    | true => rw [hk] at this; simp [bitI] at this
  | some x =>
    have h1 := List.mem_of_find?_eq_some hf
    have h2 := List.find?_some hf
    simp only [Option.getD_some]
    obtain ⟨p, hp, rfl⟩ := f.place rok hu h1
    refine ⟨.inl ?_, Nat.le_of_lt (f.fr.kn _ ⟨p, hp, rfl⟩)⟩
    rw [f.lkw hp]
    cases p with
    | v i =>
      rw [f.mkV i hp] at h2
      refine ⟨cmpV_mem.2 ⟨hp, (f.same rok hu hp).1 (rok.rowOf_eq (f.inT hrow.1) h1).symm⟩, ?_⟩
      show kv i = true
      cases hk : kv i with
      | true => rfl
      | false => rw [hk] at h2; simp [bitI] at h2
    | t i =>
      obtain ⟨e, he, rfl⟩ := List.mem_map.1 hp
      rw [(f.mkE e he).1] at h2; simp at h2
    | b i =>
      obtain ⟨e, he, rfl⟩ := List.mem_map.1 hp
      rw [(f.mkE e he).2] at h2; simp at h2
theorem FI.someE (f : FI rows V n vl el wl sp T vs es kv ke nm) (rok : RowsOk n rows) {u : Int} (hu : u ∈ vs) : SomeS (cmpE es u) ke (lkW wl (firstME V (rowOf rows (nm (.v u))))).2 ∧ firstME V (rowOf rows (nm (.v u))) ≤ n := by
  have hrow := f.row rok (okV (es := es) hu)
  unfold firstME
  cases hf : (rowOf rows (nm (.v u))).find? fun i => decide ((V i).2.2 > 0) with
  | none =>
    rw [List.find?_eq_none] at hf
    simp only [Option.getD_none]
    refine ⟨.inr ⟨by unfold lkW; rw [f.lz]; rfl, fun y hy => ?_⟩, by omega⟩
    obtain ⟨e, he, rfl, hc⟩ := cmpE_mem.1 hy
    have := hf (nm (.t e.id)) ((f.edge rok hu he).2 hc)
    rw [(f.mkE e he).1] at this
    cases hk : ke e.id with
    | false => rfl
    | true => rw [hk] at this; simp [bitI] at this
  | some x =>
    have h1 := List.mem_of_find?_eq_some hf
    have h2 := List.find?_some hf
    simp only [Option.getD_some]
    obtain ⟨p, hp, rfl⟩ := f.place rok hu h1
    refine ⟨.inl ?_, Nat.le_of_lt (f.fr.kn _ ⟨p, hp, rfl⟩)⟩
    rw [f.lkw hp]
    cases p with
    | v i => rw [f.mkV i hp] at h2; simp at h2
    | t i =>
      obtain ⟨e, he, rfl⟩ := List.mem_map.1 hp
      rw [(f.mkE e he).1] at h2
      refine ⟨cmpE_mem.2 ⟨e, he, rfl, (f.edge rok hu he).1 h1⟩, ?_⟩
      show ke e.id = true
      cases hk : ke e.id with
      | true => rfl
      | false => rw [hk] at h2; simp [bitI] at h2
    | b i =>
      obtain ⟨e, he, rfl⟩ := List.mem_map.1 hp
      rw [(f.mkE e he).2] at h2; simp at h2
end
section
variable {w : World} {Fp : Nat → Prop} {F : Nat} {vs : List Int} {es : List E} {kv ke : Int → Bool}
theorem SomeV_ok (h : RepE w Fp F vs es kv ke) {u : Int} (hu : W64 u) :
    Calls Try.prog 33 #[.pointer (some ⟨F, 0, none⟩), .int .i64 u] w fun e w' => ∃ x, e = .returned (.tuple #[.int .i64 x, .int .i64 (if u ∈ vs then 0 else 51)]) ∧ (u ∈ vs → SomeS (cmpV vs es u) kv x) ∧ (u ∉ vs → x = 0) ∧ Below w.heap.size w w' := by
  obtain ⟨b, rows, V, vl, el, wl, sp, T, nm, rfl, hF, hm, hf⟩ := h
  apply f_euler_Forest_SomeV.ok
  unfold f_euler_Forest_SomeV.wp
  have key : Calls Try.prog 57 #[.pointer (some ⟨b.F, 0, none⟩), .int .i64 u, .func (.func 59) #[] #[]] w fun e w' => ∃ x, e = .returned (.tuple #[.int .i64 x, .int .i64 (if u ∈ vs then 0 else 51)]) ∧ (u ∈ vs → SomeS (cmpV vs es u) kv x) ∧ (u ∉ vs → x = 0) ∧ Below w.heap.size w w' := by
    apply f_euler_Forest_some_V.ok
    unfold f_euler_Forest_some_V.wp
    have b1 : Below w.heap.size w w.drew := (Below.refl _ _).drew
    have m1 := hm.below b1
    refine drW_intro ⟨fun w' => w' = w.drew, rfl, _, fun w' e => by subst e; exact (m1.hf.cell 0).trans rfl, _, fun w' e => by subst e; exact (m1.hf.cell 1).trans rfl, ?_⟩
    refine m1.lookV hu ⟨_, rfl, rfl, ?_⟩
    apply f_euler_load_Seek_V.ok
    refine Seek_okV m1.rope (fun i _ _ => by have := (hf.mb i).2.1; omega) _ _ fun w2 g2 => ?_
    have g := b1.trans g2
    refine ⟨_, _, rfl, ?_⟩
    by_cases hin : u ∈ vs
    case neg =>
      have : seekEV b.r.n rows V ((lkV vl u : Nat) : Int) = (0, 150) := by unfold seekEV; rw [(hf.lkv0 u).2 hin]; simp [Bd]
      rw [this]
      exact sel_t rfl ⟨0, by rw [if_neg hin], fun h => absurd h hin, fun _ => rfl, g⟩
    have hs : seekEV b.r.n rows V ((lkV vl u : Nat) : Int) = (((firstMV V (rowOf rows (nm (.v u))) : Nat) : Int), 0) := by
      unfold seekEV
      rw [(hf.lkv1 hin).1, hf.bd (okV (es := es) hin)]
      simp
    rw [hs]
    obtain ⟨h1, h2⟩ := hf.someV hm.rope.rok hin
    have hnb := hf.nb
    have m2 := m1.below g2
    refine sel_f rfl (hb_ldM (j := 3) m2.hf rfl (m2.lookW (x := firstMV V (rowOf rows (nm (.v u)))) (by unfold okN; omega) ⟨_, _, rfl, _, by rw [if_pos hin], fun _ => h1, fun h => absurd hin h, g⟩))
  refine key.mono ?_
  rintro _ w2 ⟨x, rfl, h1, h2, g⟩
  exact ⟨_, _, rfl, x, rfl, h1, h2, g⟩
theorem SomeE_ok (h : RepE w Fp F vs es kv ke) {u : Int} (hu : W64 u) :
    Calls Try.prog 32 #[.pointer (some ⟨F, 0, none⟩), .int .i64 u] w fun e w' => ∃ x, e = .returned (.tuple #[.int .i64 x, .int .i64 (if u ∈ vs then 0 else 51)]) ∧ (u ∈ vs → SomeS (cmpE es u) ke x) ∧ (u ∉ vs → x = 0) ∧ Below w.heap.size w w' := by
  obtain ⟨b, rows, V, vl, el, wl, sp, T, nm, rfl, hF, hm, hf⟩ := h
  apply f_euler_Forest_SomeE.ok
  unfold f_euler_Forest_SomeE.wp
  have key : Calls Try.prog 57 #[.pointer (some ⟨b.F, 0, none⟩), .int .i64 u, .func (.func 58) #[] #[]] w fun e w' => ∃ x, e = .returned (.tuple #[.int .i64 x, .int .i64 (if u ∈ vs then 0 else 51)]) ∧ (u ∈ vs → SomeS (cmpE es u) ke x) ∧ (u ∉ vs → x = 0) ∧ Below w.heap.size w w' := by
    apply f_euler_Forest_some_E.ok
    unfold f_euler_Forest_some_E.wp
    have b1 : Below w.heap.size w w.drew := (Below.refl _ _).drew
    have m1 := hm.below b1
    refine drW_intro ⟨fun w' => w' = w.drew, rfl, _, fun w' e => by subst e; exact (m1.hf.cell 0).trans rfl, _, fun w' e => by subst e; exact (m1.hf.cell 1).trans rfl, ?_⟩
    refine m1.lookV hu ⟨_, rfl, rfl, ?_⟩
    apply f_euler_load_Seek_E.ok
    refine Seek_okE m1.rope (fun i _ _ => by have := (hf.mb i).2.2; omega) _ _ fun w2 g2 => ?_
    have g := b1.trans g2
    refine ⟨_, _, rfl, ?_⟩
    by_cases hin : u ∈ vs
    case neg =>
      have : seekEE b.r.n rows V ((lkV vl u : Nat) : Int) = (0, 150) := by unfold seekEE; rw [(hf.lkv0 u).2 hin]; simp [Bd]
      rw [this]
      exact sel_t rfl ⟨0, by rw [if_neg hin], fun h => absurd h hin, fun _ => rfl, g⟩
    have hs : seekEE b.r.n rows V ((lkV vl u : Nat) : Int) = (((firstME V (rowOf rows (nm (.v u))) : Nat) : Int), 0) := by
      unfold seekEE
      rw [(hf.lkv1 hin).1, hf.bd (okV (es := es) hin)]
      simp
    rw [hs]
    obtain ⟨h1, h2⟩ := hf.someE hm.rope.rok hin
    have hnb := hf.nb
    have m2 := m1.below g2
    refine sel_f rfl (hb_ldM (j := 3) m2.hf rfl (m2.lookW (x := firstME V (rowOf rows (nm (.v u)))) (by unfold okN; omega) ⟨_, _, rfl, _, by rw [if_pos hin], fun _ => h1, fun h => absurd hin h, g⟩))
  refine key.mono ?_
  rintro _ w2 ⟨x, rfl, h1, h2, g⟩
  exact ⟨_, _, rfl, x, rfl, h1, h2, g⟩
end
def nof : Int → Bool := fun _ => false
theorem New_ok' {w : World} {A : Option Addr} {sl : List Int} {n c : Nat} (hr : RI w A sl) (hn : n = sl.length) (hc0 : A = none → sl.length = 0 ∧ c = 0) (hlen : sl.length ≤ 17592186044416) :
    Calls Try.prog 19 #[.slice A n c] w fun e w' => ∃ F Fp, e = .returned (.pointer (some ⟨F, 0, none⟩)) ∧ RepE w' Fp F [] [] nof nof ∧ (∀ k, Fp k → w.heap.size ≤ k) ∧ Below w.heap.size w w' := by
  subst hn
  apply f_euler_New.ok
  unfold f_euler_New.wp
  refine (New_ok hr hc0 hlen).mono ?_
  rintro _ w1 ⟨r, rfl, hrope, rn, rB, g1⟩
  have h1 := hrope fun _ => (0, 0, 0)
  refine ⟨_, rfl, ?_⟩
  show alW w1 (.map #[] 0) _
  have am : ∀ {w : World} {K : Nat → World → Prop}, (∀ w' b, b = w.heap.size → w'.heap.size = b + 1 → w'.heap[b]? = some (Obj.map #[] 0) → w' = w.alloc (.map #[] 0) → Below w.heap.size w w' → K b w') → alW w (.map #[] 0) K :=
    fun {w K} h => h _ _ rfl (by simp) (MapKept.heap_alloc w _).1 rfl ((Below.refl _ _).alloc (Nat.le_refl _) _)
  refine am fun w2 bv ev sv hv qv gv => am fun w3 be ee se he qe ge => am fun w4 bw ew sw hw qw gw => al_new fun w5 bF eF sF hF gF => ?_
  have g13 : Below w1.heap.size w1 w5 := ((gv.trans (ge.mono (by omega))).trans (gw.mono (by omega))).trans (gF.mono (by omega))
  have hr5 := h1.below g13
  have lt1 := h1.lt
  have sap1 := h1.sap
  have mv0 : GM w2 eI eN W64 bv [] := by rw [qv, ev]; exact GM.new w1
  have me0 : GM w3 eI eA W64 be [] := by rw [qe, ee]; exact GM.new w2
  have mw0 : GM w4 eN eP okN bw [] := by rw [qw, ew]; exact GM.new w3
  have em : EM w5 ⟨bF, r, bv, be, bw, none, 0⟩ [] (fun _ => (0, 0, 0)) [] [] [] [] := by
    refine ⟨hF, hr5, ((mv0.below ge).below gw).below gF, (me0.below gw).below gF, mw0.below gF, OwnI.none _ _ _, ?_, (fun a ha => by cases ha), fun a ha => ?_⟩
    · simp only [EB.ix, List.nodup_cons, List.mem_cons, List.not_mem_nil, or_false, not_or, not_false_eq_true, List.nodup_nil, and_true]
      omega
    · have := sap1 a ha
      simp only [EB.ix, List.mem_cons, List.not_mem_nil, or_false, not_or]
      omega
  have fi : FI [] (fun _ => (0, 0, 0)) r.n [] [] [] [] [] [] [] nof nof fun _ => 0 := by
    have no : ∀ {p}, ¬ okP [] [] p := fun {p} h => by cases p <;> simp [okP] at h
    exact ⟨⟨fun p q hp => absurd hp no, by simp, by simp⟩, by simp, by simp, by simp, by simp, by simp, fun i => by simp [lk], rfl, fun i => by simp [lk], fun p hp => absurd hp no, rfl, ⟨.refl _, by simp, by simp, fun x ⟨p, hp, _⟩ => absurd hp no⟩, fun p hp => absurd hp no, by simp, rfl, by rw [rn]; rfl, by rw [rn]; decide, by simp, by simp, fun x => by simp⟩
  refine ⟨bF, Fe _, rfl, ⟨_, _, _, _, _, _, _, _, _, rfl, fun _ => .rfl, em, fi⟩, ?_, g1.trans (g13.mono g1.size)⟩
  have s1 := g1.size
  have lR : w.heap.size ≤ r.R := by have := lt1.2.2.1; omega
  have lg : w.heap.size ≤ r.g := by
    obtain ⟨N, ts, hp, _⟩ := h1
    have := hp.g_lt.1; omega
  rintro k (hk | ⟨a, ha, rfl⟩ | ⟨a, ha, rfl⟩)
  · simp only [EB.ix, List.mem_cons, List.not_mem_nil, or_false] at hk
    omega
  · cases ha
  · have ha : r.As = some a := ha
    have := (sap1 a ha).1; omega
end Go.Proofs.Ytkkobfajahmfaaa.Rd
