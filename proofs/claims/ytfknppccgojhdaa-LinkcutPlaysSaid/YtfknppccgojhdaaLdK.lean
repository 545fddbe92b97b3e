/- The document's path and what it tells of it, walked. Conditions: none. -/
import Derived.Test.YtfknppccgojhdaaLdJ
namespace Go.Dn
open Go.RowKit
set_option linter.unusedVariables false
theorem OwnI.ty {w : World} {B e : Nat} {A : Option Addr} {c : Nat} {l : List Int} (h : OwnI w B e A c l) {a : Addr} (ha : A = some a) : ∃ cs, w.heap[a.block]? = some (.cells cs e) := by
  subst ha
  rcases h.2 with ⟨h0, _⟩ | ⟨g, cap, cur, hv, hg, hh, _⟩
  · cases h0
  · injection hv with hA
    injection hA with hA
    subst hA; exact ⟨cur, hh⟩
theorem OwnEd.ty {w : World} {B e : Nat} {A : Option Addr} {c : Nat} {l : List E} (h : OwnEd w B e A c l) {a : Addr} (ha : A = some a) : ∃ cs, w.heap[a.block]? = some (.cells cs e) := by
  subst ha
  rcases h.2 with ⟨h0, _⟩ | ⟨g, cap, cur, hv, hg, hh, _⟩
  · cases h0
  · injection hv with hA
    injection hA with hA
    subst hA; exact ⟨cur, hh⟩
theorem OwnEd.shape {w : World} {B e : Nat} {A : Option Addr} {c : Nat} {l : List E} (h : OwnEd w B e A c l) (hl : l ≠ []) : ∃ g, A = some ⟨g, 0, Option.none⟩ ∧ l.length ≤ c := by
  rcases h.2 with ⟨_, h1⟩ | ⟨g, cap, cur, hv, hg, hh, hn, _⟩
  · exact absurd (List.length_eq_zero_iff.1 h1) hl
  · injection hv with hA _ hc
    exact ⟨g, hA, by omega⟩
theorem OwnEd.lit0 (w : World) (e : Nat) : OwnEd (w.alloc (.cells #[] e)) w.heap.size e (some ⟨w.heap.size, 0, Option.none⟩) 0 [] := by
  have h := World.ownsRow_lit (base := w.heap.size) (e := e) (size := 4) w #[] 0 (Nat.le_refl _) (by unfold maxLen; omega) (by simp)
  exact h
end Go.Dn
namespace Go.Proofs.Ytfknppccgojhdaa.Rd
open Go.Dn Go.RowKit
set_option linter.unusedVariables false
set_option maxRecDepth 100000
theorem _root_.Go.Dn.OwnEd.pop {w : World} {B : Nat} {A : Option Addr} {c : Nat} {l : List E} {e : E} (h : OwnEd w B TE A c (l ++ [e])) : OwnEd w B TE A c l := by
  obtain ⟨g, rfl, _⟩ := h.shape (by simp)
  unfold OwnEd at h ⊢
  rw [List.length_append, eVs_app] at h
  exact own_prefix (n := l.length) h (eVs_len l)
theorem ob_dis {w : World} {B : Nat} {A A2 : Option Addr} {c c2 : Nat} {l : List E} {m : List Int} (h : OwnEd w B TE A c l) (k : OwnI w B TI A2 c2 m) : ∀ a, A = some a → ¬ Ob A2 a.block := by
  rintro a ha ⟨a2, ha2, e⟩
  obtain ⟨cs, h1⟩ := h.ty ha
  obtain ⟨cs2, h2⟩ := k.ty ha2
  rw [e, h1] at h2
  injection h2 with h2
  injection h2 with _ h2
  revert h2; decide
theorem ob_dis2 {w : World} {B : Nat} {A A2 : Option Addr} {c c2 : Nat} {l : List E} {m : List Int} (h : OwnEd w B TE A c l) (k : OwnI w B TI A2 c2 m) : ∀ a, A2 = some a → ¬ Ob A a.block := by
  rintro a ha ⟨a2, ha2, e⟩
  exact ob_dis h k a2 ha2 ⟨a, ha, e.symm⟩
theorem slA04 (A : Option Addr) (c : Nat) : slA A 0 c 4 = A := by
  unfold slA
  split
  · rfl
  · cases A <;> simp [add_mk, Addr.add]
theorem Way_l1 {w : World} {Ae Au : Option Addr} {ce nu cu : Nat} {es : List E} {used : List Int} (re : RE w Ae es) (ru : RI w Au used) (hnu : nu = used.length) (hel : es.length ≤ 4096) (hul : used.length ≤ 1000000) {at_ : Int} {K2 : Int → World → Prop}
    (k1 : (∀ e ∈ es, (e.u = at_ ∨ e.v = at_) → e.id ∈ used) → K2 (-1) w) (k2 : ∀ (j : Nat) (hj : j < es.length), (es[j].u = at_ ∨ es[j].v = at_) → es[j].id ∉ used → K2 (j : Int) w) : ∀ (m i : Nat) (x : Int), es.length - i = m → i ≤ es.length →
      ((x = -1 ∧ ∀ e ∈ es.take i, (e.u = at_ ∨ e.v = at_) → e.id ∈ used) ∨ ∃ (j : Nat) (hj : j < es.length), x = (j : Int) ∧ (es[j].u = at_ ∨ es[j].v = at_) ∧ es[j].id ∉ used) →
      f_ref06_Way.l1 (m + 1) Ae es.length ce at_ Au nu cu x (i : Int) w K2 := by
  intro m
  induction m with
  | zero =>
    intro i x hm hi hx
    have : i = es.length := by clear hx; omega
    subst this
    unfold f_ref06_Way.l1
    refine sel_f (by simp) ?_
    rcases hx with ⟨rfl, h⟩ | ⟨j, hj, rfl, h1, h2⟩
    · rw [List.take_length] at h; exact k1 h
    · exact k2 j hj h1 h2
  | succ m ih =>
    intro i x hm hi hx
    have hlt : i < es.length := by clear hx; omega
    have hm2 : es.length - (i + 1) = m := by clear hx; omega
    obtain ⟨a, hA, q⟩ := re i hlt
    have hw : IntKind.i64.wrap ((i : Int) + 1) = ((i + 1 : Nat) : Int) := by clear hx; rw [w64_in (by omega)]; omega
    have tk := List.take_succ_eq_append_getElem hlt
    unfold f_ref06_Way.l1
    rw [hw]
    refine sel_t (by simpa using hlt) ?_
    rcases hx with ⟨rfl, h⟩ | ⟨j, hj, rfl, h1, h2⟩
    · have cand : (es[i].u = at_ ∨ es[i].v = at_) → es[i].id ∉ used → f_ref06_Way.l1 (m + 1) Ae es.length ce at_ Au nu cu (i : Int) ((i + 1 : Nat) : Int) w K2 := fun h1 h2 => ih (i + 1) _ hm2 hlt (.inr ⟨i, hlt, rfl, h1, h2⟩)
      have no : ((es[i].u = at_ ∨ es[i].v = at_) → es[i].id ∈ used) → f_ref06_Way.l1 (m + 1) Ae es.length ce at_ Au nu cu (-1) ((i + 1 : Nat) : Int) w K2 := fun h1 => ih (i + 1) _ hm2 hlt (.inl ⟨rfl, fun e he => by
        rw [tk] at he
        rcases List.mem_append.1 he with he | he
        · exact h e he
        · rw [List.mem_singleton.1 he]; exact h1⟩)
      refine sel_t (by decide) (optB_some hA (req_intro (by simp; omega) (ldI_intro (by rw [Int.toNat_natCast]; exact q.c1) ?_)))
      by_cases e1 : es[i].u = at_
      · refine sel_t (by simp [e1]) (optB_some hA (req_intro (by simp; omega) (ldI_intro (by rw [Int.toNat_natCast]; exact q.c0) ((Has_ok ru hnu hul _).mono ?_))))
        rintro _ _ ⟨rfl, rfl⟩
        refine ⟨_, rfl, ?_⟩
        by_cases hm3 : es[i].id ∈ used
        · exact sel_f (by simpa using hm3) (no fun _ => hm3)
        · exact sel_t (by simpa using hm3) (cand (.inl e1) hm3)
      · refine sel_f (by simp [e1]) (optB_some hA (req_intro (by simp; omega) (ldI_intro (by rw [Int.toNat_natCast]; exact q.c2) ?_)))
        by_cases e2 : es[i].v = at_
        · refine sel_t (by simp [e2]) (optB_some hA (req_intro (by simp; omega) (ldI_intro (by rw [Int.toNat_natCast]; exact q.c0) ((Has_ok ru hnu hul _).mono ?_))))
          rintro _ _ ⟨rfl, rfl⟩
          refine ⟨_, rfl, ?_⟩
          by_cases hm3 : es[i].id ∈ used
          · exact sel_f (by simpa using hm3) (no fun _ => hm3)
          · exact sel_t (by simpa using hm3) (cand (.inr e2) hm3)
        · exact sel_f (by simp [e2]) (no fun hh => absurd hh (by simp [e1, e2]))
    · exact sel_f (by simp) (ih (i + 1) _ hm2 hlt (.inr ⟨j, hj, rfl, h1, h2⟩))
theorem Way_l0 {w0 : World} {Ae : Option Addr} {ce : Nat} {es : List E} (re : RE w0 Ae es) (hel : es.length ≤ 4096) (hids : (es.map E.id).Nodup) {u v : Int} {K0 : Option Addr → Nat → Nat → World → Prop} {Kr : Option Addr → Nat → Nat → Bool → World → Prop}
    (k0 : ∀ w A c path, OwnEd w w0.heap.size TE A c path → Wk es u path v → NB path → Below w0.heap.size w0 w → K0 A path.length c w) (kr : ∀ w, (¬ ∃ p, Wk es u p v) → Below w0.heap.size w0 w → Kr none 0 0 false w) :
    ∀ (m : Nat) (w : World) (A Au : Option Addr) (c cu : Nat) (path : List E) (at_ : Int) (used : List Int), 2 * (es.length - used.length) + path.length < m → OwnEd w w0.heap.size TE A c path → OwnI w w0.heap.size TI Au cu used → WayI es u v path at_ used → Below w0.heap.size w0 w →
      f_ref06_Way.l0 m Ae es.length ce v A path.length c at_ Au used.length cu w K0 Kr := by
  have hinj := ids_inj hids
  intro m
  induction m with
  | zero => intro w A Au c cu path at_ used h; omega
  | succ m ih =>
    intro w A Au c cu path at_ used hm ho hu hI hb
    have hul : used.length ≤ es.length := by
      have := nodup_subI hI.nd hI.ui
      simpa using this
    unfold f_ref06_Way.l0
    by_cases hat : at_ = v
    · refine sel_f (by simp [hat]) (k0 w A c path ho ?_ hI.nb hb)
      have := hI.wk
      rw [hat] at this; exact this
    refine sel_t (by simp [hat]) ⟨es.length + 1, Way_l1 (re.below hb) hu.reads rfl hel (by omega) (fun hno => ?_) (fun j hj hinc hnu => ?_) es.length 0 (-1) (by omega) (by omega) (.inl ⟨rfl, by simp⟩)⟩
    · intro _
      refine sel_f (by decide) ?_
      rcases List.eq_nil_or_concat path with rfl | ⟨p0, e, rfl⟩
      · exact sel_t (by simp) (kr w (hI.none hat hno) hb)
      · have e0 : p0.concat e = p0 ++ [e] := List.concat_eq_append
        rw [e0] at ho hI hm ⊢
        have hlen : (p0 ++ [e]).length = p0.length + 1 := by simp
        obtain ⟨g, rfl, hcap⟩ := ho.shape (by simp)
        have pl : p0.length + 1 ≤ 4096 := by have := hI.pl; omega
        have hw : IntKind.i64.wrap ((((p0 ++ [e]).length : Nat) : Int) - 1) = (p0.length : Int) := by rw [hlen, w64_in (by omega)]; omega
        obtain ⟨a, hA, q⟩ := ho.reads p0.length (by omega)
        injection hA with hA; subst hA
        have hget : (p0 ++ [e])[p0.length]'(by omega) = e := by simp
        rw [hget] at q
        refine sel_f (by simp; omega) ?_
        rw [hw]
        refine optB_some rfl (req_intro (by simp; omega) (rowE q ((other_ok w e at_).mono ?_)))
        rintro _ w2 ⟨rfl, g2⟩
        refine ⟨_, rfl, req_intro (by simp; omega) ?_⟩
        rw [slA04, Nat.sub_zero, Nat.sub_zero, Int.toNat_natCast]
        refine ih w2 _ Au c cu p0 (oth e at_) used (by omega) (ho.pop.keeps (S := fun _ => False) (.of_below g2) fun _ _ => id) (hu.keeps (S := fun _ => False) (.of_below g2) fun _ _ => id) (hI.pop hat hno) (hb.trans (g2.mono hb.size))
    · intro _
      have hem := List.getElem_mem hj
      have hI2 := hI.push hinj hat hem hinc hnu
      have hul2 : used.length + 1 ≤ es.length := by
        have := nodup_subI hI2.nd hI2.ui
        simpa using this
      obtain ⟨a, hA, q⟩ := (re.below hb) j hj
      have hpl := hI.pl
      refine sel_t (by simp) (optB_some hA (req_intro (by simp; omega) (ldI_intro (by rw [Int.toNat_natCast]; exact q.c0) ?_)))
      refine put_in hu rfl (x := es[j].id) hb.size (by omega) fun A2 c2 w2 o2 k2 f2 => ?_
      have ho2 := ho.keeps k2 (ob_dis ho hu)
      have hb2 : Below w0.heap.size w0 w2 := hb.trans (k2.below hb.size fun k hk ⟨a', ha', hh⟩ => by have := (hu.block a' ha').1; omega)
      obtain ⟨a', hA', q2⟩ := (re.below hb2) j hj
      refine optB_some hA' (req_intro (by simp; omega) (rowE q2 (put_ed ho2 rfl (e := es[j]) hb2.size (by omega) fun A3 c3 w3 o3 k3 f3 => ?_)))
      have o23 := o2.keeps k3 (ob_dis2 ho2 o2)
      have hb3 : Below w0.heap.size w0 w3 := hb2.trans (k3.below hb2.size fun k hk ⟨a', ha', hh⟩ => by have := (ho2.block a' ha').1; omega)
      obtain ⟨a'', hA'', q3⟩ := (re.below hb3) j hj
      refine optB_some hA'' (req_intro (by simp; omega) (rowE q3 ((other_ok w3 es[j] at_).mono ?_)))
      rintro _ w4 ⟨rfl, g4⟩
      refine ⟨_, rfl, ?_⟩
      refine ih w4 (some A3) (some A2) c3 c2 (path ++ [es[j]]) (oth es[j] at_) (used ++ [es[j].id]) (by rw [List.length_append, List.length_append]; simp only [List.length_singleton]; omega) (o3.keeps (S := fun _ => False) (.of_below g4) fun _ _ => id) (o23.keeps (S := fun _ => False) (.of_below g4) fun _ _ => id) hI2 (hb3.trans (g4.mono hb3.size))
theorem Way_ok {w : World} {Ae : Option Addr} {ne ce : Nat} {es : List E} (re : RE w Ae es) (hne : ne = es.length) (hel : es.length ≤ 4096) (hids : (es.map E.id).Nodup) (u v : Int) :
    Calls Try.prog 39 #[.slice Ae ne ce, .int .i64 u, .int .i64 v] w fun en w' => ((∃ A c path, en = .returned (.tuple #[.slice A path.length c, .bool true]) ∧ RE w' A path ∧ Wk es u path v ∧ NB path) ∨ (en = .returned (.tuple #[.slice none 0 0, .bool false]) ∧ ¬ ∃ p, Wk es u p v)) ∧ Below w.heap.size w w' := by
  subst hne
  apply f_ref06_Way.ok
  unfold f_ref06_Way.wp
  refine alW_intro (alW_intro ?_)
  have o1 := OwnEd.lit0 w TE
  have b1 : Below w.heap.size w (w.alloc (.cells #[] TE)) := (Below.refl _ _).alloc (Nat.le_refl _) _
  generalize w.alloc (.cells #[] TE) = w1 at *
  have o2 := OwnI.lit (w := w1) (B := w.heap.size) (e := TI) [] (cs := #[]) rfl b1.size (by simp)
  have b2 : Below w1.heap.size w1 (w1.alloc (.cells #[] TI)) := (Below.refl _ _).alloc (Nat.le_refl _) _
  generalize w1.alloc (.cells #[] TI) = w2 at *
  have o1' := o1.keeps (S := fun _ => False) (.of_below b2) fun _ _ => id
  have hb := b1.trans (b2.mono b1.size)
  refine ⟨2 * es.length + 1, Way_l0 re hel hids (fun w3 A c path o3 hwk hnb g3 => ?_) (fun w3 hno g3 => ?_) (2 * es.length + 1) w2 _ _ 0 _ [] u [] (by simp) o1' o2 (WayI.start es u v) hb⟩
  · intro _
    exact ⟨.inl ⟨A, c, path, rfl, o3.reads, hwk, hnb⟩, g3⟩
  · intro _
    exact ⟨.inr ⟨rfl, hno⟩, g3⟩
theorem int_fl3 {n : Int} {w : World} {K : Value → World → Prop} (hk : K (.float .f64 (fb n)) w) : Runs Try.prog (Go.convert 3 52 (.int .i64 n)) w K :=
  runs_of (run_convert_int_float w _ _ .i64 .f64 _ (by rfl) (by rfl)) hk
theorem RAlong_ok {w : World} {s : RS} {vr : List Int} {er : List E} (h : RF w s vr er) (ve : VE vr er) (u v : Int) :
    Calls Try.prog 27 #[.agg (rsC s), .int .i64 u, .int .i64 v] w fun en w' => (∃ mx W K code, en = .returned (.tuple #[.agg (aC mx W K), .int .i64 code]) ∧ AlongR vr er u v mx W K code) ∧ Below w.heap.size w w' := by
  apply f_ref17_Along.ok
  unfold f_ref17_Along.wp
  refine al_new fun w1 b1 e1 s1 h1 g1 => al_new fun w2 b3 e3 s3 h3 g2 => ?_
  have hb := g1.trans (g2.mono (by omega))
  have h1 : HB w2 b1 (rsC s) 31 := h1.below g2
  have h3 : HB w2 b3 (aC zE 0 0) 48 := by rw [aC_zero]; exact h3
  have hf := h.belw hb
  have hvl := h.vl
  have hel := ve.el
  have z0 : ∀ {w' : World} {Q : Int → Int → Int → Int → Nat → Nat → World → Prop}, HB w' b3 (aC zE 0 0) 48 → (∀ w'', Keeps (fun k => k = b3) w' w'' → Q zE.id zE.u zE.v zE.w (fb 0) (fb 0) w'') →
      stW w' (⟨b3, 0, none⟩ : Addr) (.int .i64 (0 : Int)) fun w6 => stW w6 ((⟨b3, 0, none⟩ : Addr).add 1) (.int .i64 (0 : Int)) fun w7 => stW w7 ((⟨b3, 0, none⟩ : Addr).add 2) (.int .i64 (0 : Int)) fun w8 => stW w8 ((⟨b3, 0, none⟩ : Addr).add 3) (.int .i64 (0 : Int)) fun w9 => stW w9 ((⟨b3, 0, none⟩ : Addr).add 4) (.complex .f64 0 0) fun w10 =>
      ldI w10 (⟨b3, 0, none⟩ : Addr) .i64 fun x11 => ldI w10 ((⟨b3, 0, none⟩ : Addr).add 1) .i64 fun x12 => ldI w10 ((⟨b3, 0, none⟩ : Addr).add 2) .i64 fun x13 => ldI w10 ((⟨b3, 0, none⟩ : Addr).add 3) .i64 fun x14 => ldC w10 ((⟨b3, 0, none⟩ : Addr).add 4) .f64 fun r15 i15 => Q x11 x12 x13 x14 r15 i15 w10 := by
    intro w' Q hh hQ
    have := put5 (m := zE) (p := fb 0) (q := fb 0) hh fun w'' _ k => hQ w'' k
    rw [fb_zero] at this
    exact this
  refine hb_ldS0 h1 rfl ((Has_ok hf.v h.nv (by omega) u).mono ?_)
  rintro _ _ ⟨rfl, rfl⟩
  refine ⟨_, rfl, ?_⟩
  by_cases hu : u ∈ vr
  rotate_left
  · refine sel_t (by simpa using hu) (z0 h3 fun w4 k4 => ⟨⟨zE, 0, 0, 51, rfl, .inl ⟨fun hh => hu hh.1, rfl, rfl, rfl, rfl⟩⟩, HB.belK hb k4 (by omega)⟩)
  refine sel_f (by simpa using hu) (hb_ldS0 h1 rfl ((Has_ok hf.v h.nv (by omega) v).mono ?_))
  rintro _ _ ⟨rfl, rfl⟩
  refine ⟨_, rfl, ?_⟩
  by_cases hv : v ∈ vr
  rotate_left
  · refine sel_t (by simpa using hv) (z0 h3 fun w4 k4 => ⟨⟨zE, 0, 0, 51, rfl, .inl ⟨fun hh => hv hh.2, rfl, rfl, rfl, rfl⟩⟩, HB.belK hb k4 (by omega)⟩)
  refine sel_f (by simpa using hv) (hb_ldS h1 (j := 1) rfl ((Way_ok hf.e h.ne (by omega) ve.eid u v).mono ?_))
  rintro _ w4 ⟨hres, g4⟩
  have hb4 := hb.trans (g4.mono hb.size)
  have h34 := h3.below g4
  rcases hres with ⟨A, c, path, rfl, rp, hwk, hnb⟩ | ⟨rfl, hno⟩
  · have sm := ve.sm u v path hu hwk hnb
    refine ⟨_, _, _, _, rfl, sel_f rfl ((Most_ok rp rfl (by omega)).mono ?_)⟩
    rintro _ w5 ⟨⟨m, rfl, hm⟩, g5⟩
    refine ⟨_, _, _, _, rfl, (Sum_ok (rp.below g5) rfl (by omega) fun e he => (ve.er e (hwk.mem e he)).2.2.2.2.2).mono ?_⟩
    rintro _ _ ⟨rfl, rfl⟩
    refine ⟨_, rfl, int_fl ⟨_, rfl, int_fl3 ⟨_, rfl, ?_⟩⟩⟩
    refine put5 (m := m) (h34.below g5) fun w6 _ k6 => ⟨⟨m, sumW path, path.length, 0, rfl, .inr (.inr ⟨hu, hv, path, hwk, hnb, hm, rfl, rfl, rfl⟩)⟩, HB.belK (hb4.trans (g5.mono hb4.size)) k6 (by omega)⟩
  · refine ⟨_, _, _, _, rfl, sel_t rfl (z0 h34 fun w5 k5 => ⟨⟨zE, 0, 0, 61, rfl, .inr (.inl ⟨hu, hv, fun ⟨p, hp, _⟩ => hno ⟨p, hp⟩, rfl, rfl, rfl, rfl⟩)⟩, HB.belK hb4 k5 (by omega)⟩)⟩
end Go.Proofs.Ytfknppccgojhdaa.Rd
