/- A graph by levels between calls; a vertex comes · A graph by levels: AddV · A graph by levels: DelV · A graph by levels: an edge comes · A graph by levels: AddE · A graph by levels: DelE · A graph by levels: New, Len, Joined, Size, Verts · A graph by levels: Trees · A graph by levels: Trees, walked -/
import Derived.Test.YtbhhbnnmdekjiaaGreatZ7G
set_option linter.unusedSimpArgs false
set_option linter.unusedVariables false
namespace Go.Proofs.YtbhhbnnmdekjiaaGreat.Rd
open Go.Dn Go.RowKit
set_option maxRecDepth 100000
theorem badId1H (i : Int) (w : World) : Calls Tryz.prog 59 #[.int .i64 i] w fun e w' => (∃ b, e = .returned (.bool b) ∧ (b = true ↔ badI i)) ∧ w' = w := by
  apply f_hdt_badId_1.ok
  unfold f_hdt_badId_1.wp
  unfold badI
  by_cases h : i < 1
  · exact sel_t (by simpa using h) ⟨⟨true, rfl, by simp [h]⟩, rfl⟩
  · exact sel_f (by simpa using h) ⟨⟨_, rfl, by simp [h]⟩, rfl⟩
theorem ixfH {w : World} {A : Option Addr} {l : List Int} {c : Nat} (r : RI w A l) (hl : l.length ≤ 1000) {K0 : World → Prop} {Kr : Int → World → Prop} (h0 : (∀ i ∈ l, ¬ badI i) → K0 w) (h1 : ∀ j : Nat, j < l.length → (∃ i ∈ l, badI i) → Kr (j : Int) w) : ∀ (m i : Nat), l.length - i = m → i ≤ l.length → (∀ x ∈ l.take i, ¬ badI x) →
    f_slices_IndexFunc_int_int_H.l0 (m + 1) A l.length c (l.length : Int) (i : Int) w K0 Kr := by
  intro m
  induction m with
  | zero =>
    intro i hm hi ht
    have : i = l.length := by omega
    subst this
    unfold f_slices_IndexFunc_int_int_H.l0
    exact sel_f (by simp) (h0 (by rw [List.take_length] at ht; exact ht))
  | succ m ih =>
    intro i hm hi ht
    have hlt : i < l.length := by omega
    obtain ⟨a, rfl, q⟩ := r i hlt
    unfold f_slices_IndexFunc_int_int_H.l0
    refine sel_t (by simpa using hlt) (optB_some rfl (req_intro (by simp; omega) (ldI_intro (x := l[i]) (by rw [Int.toNat_natCast, Nat.mul_one]; exact q) ?_)))
    refine (badId1H _ _).mono ?_
    rintro _ w2 ⟨⟨b, rfl, hb⟩, rfl⟩
    refine ⟨b, rfl, ?_⟩
    by_cases hx : badI l[i]
    · exact sel_t (hb.2 hx) (h1 i hlt ⟨_, List.getElem_mem hlt, hx⟩)
    · refine sel_f (Bool.eq_false_iff.2 fun h => hx (hb.1 h)) ?_
      rw [w64_in (by omega), show (i : Int) + 1 = ((i + 1 : Nat) : Int) by omega]
      refine ih (i + 1) (by omega) (by omega) fun x hxm => ?_
      rw [List.take_succ_eq_append_getElem hlt, List.mem_append, List.mem_singleton] at hxm
      rcases hxm with h | rfl
      · exact ht x h
      · exact hx
theorem badIdH {w : World} {A : Option Addr} {l : List Int} {n c : Nat} (r : RI w A l) (hn : n = l.length) (hl : l.length ≤ 1000) :
    Calls Tryz.prog 39 #[.slice A n c] w fun e w' => (∃ b, e = .returned (.bool b) ∧ (b = true ↔ ∃ i ∈ l, badI i)) ∧ w' = w := by
  subst hn
  apply f_hdt_badId.ok
  unfold f_hdt_badId.wp
  have key : Calls Tryz.prog 58 #[.slice A l.length c, .func (.func 59) #[] #[]] w fun e w' => (∃ b, e = .returned (.bool b) ∧ (b = true ↔ ∃ i ∈ l, badI i)) ∧ w' = w := by
    apply f_slices_ContainsFunc_int_int_H.ok
    unfold f_slices_ContainsFunc_int_int_H.wp
    have k2 : Calls Tryz.prog 87 #[.slice A l.length c, .func (.func 59) #[] #[]] w fun e w' => (∃ x : Int, e = .returned (.int .i64 x) ∧ (x ≥ 0 ↔ ∃ i ∈ l, badI i)) ∧ w' = w := by
      apply f_slices_IndexFunc_int_int_H.ok
      unfold f_slices_IndexFunc_int_int_H.wp
      refine ⟨l.length + 1, ixfH r hl (fun h _ => ⟨⟨_, rfl, ?_⟩, rfl⟩) (fun j hj h _ => ⟨⟨_, rfl, ?_⟩, rfl⟩) l.length 0 (by omega) (by omega) (by simp)⟩
      · constructor
        · intro h; omega
        · rintro ⟨i, hi, hb⟩; exact absurd hb (h i hi)
      · exact ⟨fun _ => h, fun _ => by omega⟩
    refine k2.mono ?_
    rintro _ w2 ⟨⟨x, rfl, hx⟩, rfl⟩
    exact ⟨x, rfl, ⟨_, rfl, by simpa using hx⟩, rfl⟩
  refine key.mono ?_
  rintro _ w2 ⟨⟨b, rfl, hb⟩, rfl⟩
  exact ⟨b, rfl, ⟨b, rfl, hb⟩, rfl⟩
structure HG (w : World) (O : Ow) (s : HS) (N : Nat) : Prop where
  hm : HM w O s
  ws : WS s
  ni : NoIt s
  core : Core s.ab
  sp : Sp s.ab zE 0
  dg : ∀ v ∈ s.vs, lk s.vl v = some (deg s.ab.sk v)
  el : s.es.length ≤ 2048
  L : s.L ≤ N + 1
section
variable {w w' w0 : World} {O O' O0 : Ow} {s s' s0 : HS} {i N : Nat} {v : Int} {x : E} {u : Int}
theorem HM.has (h : HM w O s) (vk : ∀ v, v ∈ s.vs ↔ (lk s.vl v).isSome) (hv : W64 v) : Calls Tryz.prog 40 #[.pointer (some ⟨s.G, 0, none⟩), .int .i64 v] w fun e w' => e = .returned (.bool (decide (v ∈ s.vs))) ∧ w' = w := by
  apply f_hdt_Graph_has.ok
  unfold f_hdt_Graph_has.wp
  refine h.ldV ((h.part .mv).1.look2 KTv hv (zI w) ?_)
  cases hq : lk s.vl v with
  | none =>
    have : v ∉ s.vs := fun hh => by have := (vk v).1 hh; rw [hq] at this; cases this
    exact ⟨0, false, rfl, by rw [decide_eq_false this], rfl⟩
  | some y =>
    have : v ∈ s.vs := (vk v).2 (by rw [hq]; rfl)
    exact ⟨y, true, rfl, by rw [decide_eq_true this], rfl⟩
theorem HM.vlSet (h : HM w O s) {l' : List (Int × Int)} (k : Keeps (fun k => k = s.mv) w w') (hm : GM w' eI eI W64 s.mv l') : ∃ O', HM w' O' { s with vl := l' } ∧ UH O w O' w' := by
  have hO := (h.part .mv).2
  refine ⟨_, h.change (t := .mv) k (fun b hb => by rw [hb]; exact hO) (fun t' ht hp => ?_) ⟨hm, by rw [ext_old (h.dom _ _ hO)]; exact hO⟩⟩
  cases t' with
  | mv => exact absurd rfl ht
  | g => exact hp
  | sd => exact hp
  | lr => exact hp
  | me => exact hp
  | lv j => exact hp
  | fo j => exact hp
  | lm j => exact hp
  | inn j v => exact hp
  | ed id => exact hp
theorem vs_len (ws : WS s) (nd : NdK s.vl) : s.vl.length = s.vs.length := by
  have p : (s.vl.map Prod.fst).Perm s.vs := (List.perm_ext_iff_of_nodup nd (sorted_nodup ws.vss)).2 fun y => by
    rw [ws.vk y]
    cases hq : lk s.vl y with
    | none =>
      simp only [Option.isSome_none, Bool.false_eq_true, iff_false, List.mem_map, not_exists, not_and]
      intro p hp e
      exact lk_none_iff.1 hq p hp e
    | some z =>
      simp only [Option.isSome_some, iff_true]
      exact List.mem_map.2 ⟨_, lk_some hq, rfl⟩
  have := p.length_eq
  rw [List.length_map] at this
  exact this
theorem HM.ldRowA (h : HM w O s) {A : Addr} (hi : i < s.L) (hA : s.lA = some A) {K : Option Addr → Prop} (hk : K (some ⟨s.lb i, 0, none⟩)) : ldP w (A.add (i * 1)) K := by
  obtain ⟨a, ha, hld⟩ := h.ldRow hi hk
  rw [hA] at ha
  injection ha with ha
  subst ha
  exact hld
def HS.addF (s : HS) (v : Int) (k : Nat) : HS := { s with fv := fun j => if j < k then wiI (s.fv j) v else s.fv j, kv := fun j => if j < k then (fun y => if y = v then false else s.kv j y) else s.kv j }
theorem AddV_l0 {K1 : World → Prop} (hv : ¬ badI v) (hL : s.L ≤ LB) (hn : ∀ j, j < s.L → addVC (s.fv j) v = 0) {A : Addr} (hA : s.lA = some A) (hK : ∀ w, At O0 w0 w (s.addF v s.L) → K1 w) : ∀ (n k : Nat) (w : World), n + k = s.L → At O0 w0 w (s.addF v k) →
    f_hdt_Graph_AddV.l0 (n + 1) v (some A) s.L s.lc (s.L : Int) (k : Int) w K1 := by
  have hL' : s.L ≤ 17592186044000 := hL
  intro n
  induction n with
  | zero =>
    intro k w hk h
    unfold f_hdt_Graph_AddV.l0
    obtain rfl : k = s.L := by omega
    exact sel_f (by simp) (hK w h)
  | succ n ih =>
    intro k w hk h
    unfold f_hdt_Graph_AddV.l0
    obtain ⟨O1, hm, u1⟩ := h
    have hks : k < (s.addF v k).L := by show k < s.L; omega
    refine sel_t (by simp; omega) (optB_some rfl (req_intro (by simp; omega) ?_))
    rw [Int.toNat_natCast]
    refine hm.ldRowA hks hA (optB_some rfl (hm.ldF hks ((hm.addV hks (W64.id hv).1).mono ?_)))
    rintro _ w2 ⟨O2, rfl, h2, u2⟩
    refine ⟨_, rfl, ?_⟩
    rw [w64_in (by omega), show (k : Int) + 1 = ((k + 1 : Nat) : Int) by omega]
    refine ih (k + 1) w2 (by omega) ⟨O2, ?_, u1.trans u2⟩
    have e : (s.addF v k).setF k (addVr ((s.addF v k).fv k) v) ((s.addF v k).fe k) (kvA ((s.addF v k).fv k) ((s.addF v k).kv k) v) ((s.addF v k).ke k) = s.addF v (k + 1) := by
      have f1 : (s.addF v k).fv k = s.fv k := if_neg (Nat.lt_irrefl k)
      have f2 : (s.addF v k).kv k = s.kv k := if_neg (Nat.lt_irrefl k)
      have c0 := hn k hks
      rw [f1, f2]
      have e1 : addVr (s.fv k) v = wiI (s.fv k) v := by unfold addVr; rw [if_pos c0]
      have e2 : kvA (s.fv k) (s.kv k) v = fun y => if y = v then false else s.kv k y := by funext y; unfold kvA; simp only [c0, true_and]
      rw [e1, e2]
      have g : ∀ {α : Type} (f g : Nat → α) (y : α), y = g k → upN (fun j => if j < k then g j else f j) k y = fun j => if j < k + 1 then g j else f j := fun f g y hy => by
        funext j
        by_cases q : j = k
        · subst q; rw [upN_same, hy]; exact (if_pos (Nat.lt_succ_self _)).symm
        · rw [upN_ne _ _ q]
          by_cases q2 : j < k
          · show (if j < k then g j else f j) = if j < k + 1 then g j else f j
            rw [if_pos q2, if_pos (by omega)]
          · show (if j < k then g j else f j) = if j < k + 1 then g j else f j
            rw [if_neg q2, if_neg (by omega)]
      have e3 := upN_self s.fe k
      have e4 := upN_self s.ke k
      have g1 := g s.fv (fun j => wiI (s.fv j) v) (wiI (s.fv k) v) rfl
      have g2 := g s.kv (fun j => (fun y => if y = v then false else s.kv j y)) (fun y => if y = v then false else s.kv k y) rfl
      unfold HS.setF HS.addF
      simp only [e3, e4]
      show ({ s with fv := _, fe := s.fe, kv := _, ke := s.ke } : HS) = _
      rw [g1, g2]
    rw [← e]
    exact h2
end
section
variable {w w' w0 : World} {O O' O0 : Ow} {s s' s0 : HS} {i N : Nat} {v : Int} {x : E} {u : Int}
theorem HG.below (h : HG w O s N) (g : Below w.heap.size w w') : HG w' O s N := ⟨h.hm.below g, h.ws, h.ni, h.core, h.sp, h.dg, h.el, h.L⟩
theorem HG.row (h : HG w O s N) : ∃ A, s.lA = some A := by
  obtain ⟨a, ha, _⟩ := h.hm.ldRow h.ws.L0 (K := fun _ => True) trivial
  exact ⟨a, ha⟩
theorem HG.nd (h : HG w O s N) : NdK s.vl := (h.hm.part .mv).1.nd
theorem HG.vlen (h : HG w O s N) : s.vl.length = s.vs.length := vs_len h.ws h.nd
theorem HM.setVs (h : HM w O s) (l : List Int) : HM w O { s with vs := l } := by
  refine ⟨fun t => ?_, h.dom⟩
  have hp := h.part t
  cases t with
  | g => exact hp
  | sd => exact hp
  | lr => exact hp
  | mv => exact hp
  | me => exact hp
  | lv j => exact hp
  | fo j => exact hp
  | lm j => exact hp
  | inn j v => exact hp
  | ed id => exact hp
theorem addF_zero : s.addF v 0 = s := by
  unfold HS.addF
  have e1 : (fun j => if j < 0 then wiI (s.fv j) v else s.fv j) = s.fv := by funext j; exact if_neg (Nat.not_lt_zero _)
  have e2 : (fun j => if j < 0 then (fun y => if y = v then false else s.kv j y) else s.kv j) = s.kv := by funext j; exact if_neg (Nat.not_lt_zero _)
  rw [e1, e2]
theorem put_vr {l : List (Int × Int)} {y z : Int} (nd : NdK l) (hl : ∀ p ∈ l, ¬ badI p.1) (hy : ¬ badI y) : ∀ p ∈ putK l y z, ¬ badI p.1 := fun p hp => by
  have h1 := lk_mem (NdK.put nd _ _) hp
  rw [lk_putK] at h1
  by_cases q : y = p.1
  · rw [← q]; exact hy
  · rw [if_neg q] at h1
    exact hl _ (lk_some h1)
theorem lo_nil {a : Ab} (c : Core a) {k : Nat} {v : Int} (hv : v ∉ a.vs) : a.lo k v = [] := by
  apply Classical.byContradiction
  intro h
  obtain ⟨id, hid⟩ := nil_mem.1 h
  obtain ⟨d, hd, _, _, _, _, h5⟩ := (c.lo k v id).1 hid
  rcases h5 with q | q
  · exact hv (q ▸ (c.ends d hd).1)
  · exact hv (q ▸ (c.ends d hd).2)
theorem sk_mem {a : Ab} {e : E} : e ∈ a.sk ↔ ∃ d ∈ a.es, d.e = e := List.mem_map
theorem deg_out {a : Ab} (c : Core a) {v : Int} (hv : v ∉ a.vs) : deg a.sk v = 0 := deg_zero.2 fun e he => by
  obtain ⟨d, hd, rfl⟩ := sk_mem.1 he
  exact ⟨fun q => hv (q ▸ (c.ends d hd).1), fun q => hv (q ▸ (c.ends d hd).2)⟩
theorem AddV_hg (h : HG w O s N) (hN : N < LB) (hv : W64 v) : Calls Tryz.prog 28 #[.pointer (some ⟨s.G, 0, none⟩), .int .i64 v] w fun e w' => ∃ O' s', e = .returned (.int .i64 (addVC s.vs v)) ∧ HG w' O' s' N ∧ UH O w O' w' ∧ s'.G = s.G ∧ s'.vs = addVr s.vs v ∧ s'.ab.sk = s.ab.sk := by
  have hN' : N < 17592186044000 := hN
  have hLL := h.L
  apply f_hdt_Graph_AddV.ok
  unfold f_hdt_Graph_AddV.wp
  refine al_new fun w1 b1 e1 z1 hb1 g1 => ?_
  refine (badIdH (hb1.ri [v] rfl) rfl (by simp)).mono ?_
  rintro _ wx ⟨⟨b, rfl, hb⟩, hx⟩
  obtain rfl : w1 = wx := hx.symm
  have h1 := h.below g1
  have u1 : UH O w O w1 := .below g1
  have hb : b = true ↔ badI v := by rw [hb]; simp
  have same : ∀ {c : Int}, addVC s.vs v = c → c ≠ 0 → ∃ O' s', (Ending.returned (.int .i64 c)) = .returned (.int .i64 (addVC s.vs v)) ∧ HG w1 O' s' N ∧ UH O w O' w1 ∧ s'.G = s.G ∧ s'.vs = addVr s.vs v ∧ s'.ab.sk = s.ab.sk := fun {c} hc h0 => by
    refine ⟨O, s, by rw [hc], h1, u1, rfl, ?_, rfl⟩
    unfold addVr; rw [hc, if_neg h0]
  refine ⟨b, rfl, ?_⟩
  by_cases q1 : badI v
  · exact sel_t (hb.2 q1) (same (by unfold addVC; rw [if_pos q1]) (by decide))
  refine sel_f (Bool.eq_false_iff.2 fun x => q1 (hb.1 x)) ((h1.hm.has h1.ws.vk hv).mono ?_)
  rintro _ wx ⟨rfl, hx⟩
  obtain rfl : w1 = wx := hx.symm
  refine ⟨_, rfl, ?_⟩
  by_cases q2 : v ∈ s.vs
  · exact sel_t (decide_eq_true q2) (same (by unfold addVC; rw [if_neg q1, if_pos q2]) (by decide))
  refine sel_f (decide_eq_false q2) (h1.hm.ldV ((h1.hm.part .mv).1.len KTv ⟨_, rfl, ?_⟩))
  have hlen := h.vlen
  by_cases q3 : 2048 ≤ s.vs.length
  · exact sel_t (by simp; omega) (same (by unfold addVC; rw [if_neg q1, if_neg q2, if_pos q3]) (by decide))
  refine sel_f (by simp; omega) (h1.hm.ldV ((h1.hm.part .mv).1.upd (v := (0 : Int)) KTv hv fun w2 gm2 k2 => ?_))
  have hc0 : addVC s.vs v = 0 := by unfold addVC; rw [if_neg q1, if_neg q2, if_neg q3]
  obtain ⟨O2, h2, u2⟩ := h1.hm.vlSet k2 gm2
  obtain ⟨A, hA⟩ := h.row
  refine h2.ldLv ?_
  rw [show ({ s with vl := putK s.vl v 0 } : HS).lA = some A from hA]
  refine ⟨s.L + 1, AddV_l0 (s := { s with vl := putK s.vl v 0 }) (O0 := O) (w0 := w) q1 (by show s.L ≤ 17592186044000; omega) (fun j hj => by
    show addVC (s.fv j) v = 0
    rw [h.ws.fv j hj]; exact hc0) hA ?_ s.L 0 w2 rfl ⟨O2, by rw [addF_zero]; exact h2, u1.trans u2⟩⟩
  rintro w3 ⟨O3, h3, u3⟩ _
  have h3 := h3.setVs (wiI s.vs v)
  obtain ⟨s3, hs3⟩ : ∃ s3 : HS, ({ HS.addF { s with vl := putK s.vl v 0 } v s.L with vs := wiI s.vs v } : HS) = s3 := ⟨_, rfl⟩
  have vaL : ∀ k y, s3.ab.lo k y = s.ab.lo k y := fun k y => by rw [← hs3]; rfl
  have va : VertA s.ab (wiI s.vs v) s3.ab := by
    refine ⟨by rw [← hs3]; rfl, by rw [← hs3]; rfl, fun k e => by rw [← hs3]; rfl, fun k y _ => vaL k y, fun k y hy => ?_, fun k y hy => ?_, by rw [← hs3]; rfl⟩
    · rw [vaL]
      exact lo_nil h.core fun hh => hy (wiI_mem.2 (.inr hh))
    · have e : s3.ab.kv k y = if k < s.L then (if y = v then false else s.kv k y) else false := by
        rw [← hs3]
        show (if k < s.L then (if k < s.L then (fun y => if y = v then false else s.kv k y) else s.kv k) y else false) = _
        by_cases q : k < s.L
        · rw [if_pos q, if_pos q, if_pos q]
        · rw [if_neg q, if_neg q]
      rw [e]
      by_cases q : y = v
      · subst q
        rw [lo_nil h.core q2]
        simp
      · have hy' : y ∈ s.vs := (wiI_mem.1 hy).resolve_left q
        rw [← h.core.kv k y hy']
        rw [if_neg q]; rfl
  have hends : ∀ d ∈ s.ab.es, d.u ∈ wiI s.vs v ∧ d.v ∈ wiI s.vs v := fun d hd => ⟨wiI_mem.2 (.inr (h.core.ends d hd).1), wiI_mem.2 (.inr (h.core.ends d hd).2)⟩
  have esk : s3.ab.sk = s.ab.sk := by unfold Ab.sk; rw [va.es]
  have hlenp : (putK s.vl v (0 : Int)).length = s.vl.length + 1 := by
    have hno : lk s.vl v = none := by
      cases hq : lk s.vl v with
      | none => rfl
      | some y => exact absurd ((h.ws.vk v).2 (by rw [hq]; rfl)) q2
    have := congrArg List.length (keys_putK (m := s.vl) (x := v) (v := (0 : Int)))
    rw [lk_notmem hno, if_neg (by decide), List.length_append, List.length_map, List.length_map] at this
    exact this
  refine ⟨O3, s3, by rw [hc0], ?_, u3, by rw [← hs3]; rfl, ?_, esk⟩
  · rw [hs3] at h3
    refine ⟨h3, ⟨fun j hj => ?_, ?_, fun y => ?_, ?_, ?_, ?_⟩, fun k y => ?_, va.core h.core hends, va.sp h.sp, fun y hy => ?_, ?_, ?_⟩
    · rw [← hs3] at hj ⊢
      have hj : j < s.L := hj
      show (if j < s.L then wiI (s.fv j) v else s.fv j) = wiI s.vs v
      rw [if_pos hj, h.ws.fv j hj]
    · rw [← hs3]; exact wiI_sorted h.ws.vss q2
    · rw [← hs3]
      show y ∈ wiI s.vs v ↔ (lk (putK s.vl v 0) y).isSome = true
      rw [wiI_mem, lk_putK]
      by_cases q : v = y
      · rw [if_pos q]; simp [q.symm]
      · rw [if_neg q, ← h.ws.vk y]
        exact ⟨fun hh => hh.resolve_left fun e => q e.symm, .inr⟩
    · rw [← hs3]; exact put_vr h.nd h.ws.vr q1
    · rw [← hs3]
      show (putK s.vl v (0 : Int)).length ≤ 2048
      omega
    · rw [← hs3]; exact h.ws.L0
    · rw [← hs3]; exact h.ni k y
    · rw [esk]
      rw [← hs3] at hy ⊢
      show lk (putK s.vl v 0) y = _
      rw [lk_putK]
      by_cases q : v = y
      · subst q; rw [if_pos rfl, deg_out h.core q2]
      · rw [if_neg q]
        exact h.dg y ((wiI_mem.1 hy).resolve_left fun e => q e.symm)
    · rw [← hs3]; exact h.el
    · rw [← hs3]; exact h.L
  · rw [← hs3]
    unfold addVr; rw [if_pos hc0]
end
section
variable {w w' w0 : World} {O O' O0 : Ow} {s s' s0 : HS} {i N : Nat} {v : Int} {x : E} {u : Int}
theorem HM.llDel (h : HM w O s) (k : Keeps (fun k => k = s.lm i) w w') (hi : i < s.L) (hm : GM w' eI eMp W64 (s.lm i) (delK (s.ll i) v)) : ∃ O', HM w' O' { s with ll := upN s.ll i (delK (s.ll i) v) } ∧ UH O w O' w' := by
  have hO := (h.part (.lm i) hi).2
  refine ⟨_, h.change (t := .lm i) k (fun b hb => by rw [hb]; exact hO) (fun t' ht hp => ?_) fun _ => ?_⟩
  · cases t' with
    | lm j =>
      have hj : j ≠ i := fun e => ht (by rw [e])
      intro hl
      have := hp hl
      show GM _ _ _ _ _ (upN s.ll i _ j) ∧ _
      rw [upN_ne _ _ hj]
      exact this
    | inn j y =>
      intro hl b hb
      have hb : lk (upN s.ll i (delK (s.ll i) v) j) y = some b := hb
      by_cases q : j = i
      · subst q
        rw [upN_same, lk_delK] at hb
        by_cases q2 : v = y
        · rw [if_pos q2] at hb; cases hb
        · rw [if_neg q2] at hb
          exact hp hl b hb
      · rw [upN_ne _ _ q] at hb
        exact hp hl b hb
    | g => exact hp
    | sd => exact hp
    | lr => exact hp
    | mv => exact hp
    | me => exact hp
    | lv j => exact hp
    | fo j => exact hp
    | ed id => exact hp
  · show GM _ _ _ _ _ (upN s.ll i _ i) ∧ _
    rw [upN_same]
    exact ⟨hm, by rw [ext_old (h.dom _ _ hO)]; exact hO⟩
def HS.delF (s : HS) (v : Int) (k : Nat) : HS := { s with fv := fun j => if j < k then woI (s.fv j) v else s.fv j, ll := fun j => if j < k then delK (s.ll j) v else s.ll j }
theorem upN_step {α : Type} (f g : Nat → α) (k : Nat) (y : α) (hy : y = g k) : upN (fun j => if j < k then g j else f j) k y = fun j => if j < k + 1 then g j else f j := by
  funext j
  by_cases q : j = k
  · subst q; rw [upN_same, hy]; exact (if_pos (Nat.lt_succ_self _)).symm
  · rw [upN_ne _ _ q]
    by_cases q2 : j < k
    · show (if j < k then g j else f j) = if j < k + 1 then g j else f j
      rw [if_pos q2, if_pos (by omega)]
    · show (if j < k then g j else f j) = if j < k + 1 then g j else f j
      rw [if_neg q2, if_neg (by omega)]
theorem delF_zero : s.delF v 0 = s := by
  unfold HS.delF
  have e1 : (fun j => if j < 0 then woI (s.fv j) v else s.fv j) = s.fv := by funext j; exact if_neg (Nat.not_lt_zero _)
  have e2 : (fun j => if j < 0 then delK (s.ll j) v else s.ll j) = s.ll := by funext j; exact if_neg (Nat.not_lt_zero _)
  rw [e1, e2]
theorem DelV_l0 {K1 : World → Prop} (hv : ¬ badI v) (hL : s.L ≤ LB) (hn : ∀ j, j < s.L → delVC (s.fv j) (s.fe j) v = 0) {A : Addr} (hA : s.lA = some A) (hK : ∀ w, At O0 w0 w (s.delF v s.L) → K1 w) : ∀ (n k : Nat) (w : World), n + k = s.L → At O0 w0 w (s.delF v k) →
    f_hdt_Graph_DelV.l0 (n + 1) v (some A) s.L s.lc (s.L : Int) (k : Int) w K1 := by
  have hL' : s.L ≤ 17592186044000 := hL
  intro n
  induction n with
  | zero =>
    intro k w hk h
    unfold f_hdt_Graph_DelV.l0
    obtain rfl : k = s.L := by omega
    exact sel_f (by simp) (hK w h)
  | succ n ih =>
    intro k w hk h
    unfold f_hdt_Graph_DelV.l0
    obtain ⟨O1, hm, u1⟩ := h
    have hks : k < (s.delF v k).L := by show k < s.L; omega
    refine sel_t (by simp; omega) (optB_some rfl (req_intro (by simp; omega) ?_))
    rw [Int.toNat_natCast]
    refine hm.ldRowA hks hA (optB_some rfl (hm.ldF hks ((hm.delV hks (W64.id hv).1).mono ?_)))
    rintro _ w2 ⟨O2, rfl, h2, u2⟩
    have c0 := hn k hks
    have f1 : (s.delF v k).fv k = s.fv k := if_neg (Nat.lt_irrefl k)
    have f3 : (s.delF v k).ll k = s.ll k := if_neg (Nat.lt_irrefl k)
    obtain ⟨s2, hs2⟩ : ∃ s2, (s.delF v k).setF k (delVr ((s.delF v k).fv k) ((s.delF v k).fe k) v) ((s.delF v k).fe k) ((s.delF v k).kv k) ((s.delF v k).ke k) = s2 := ⟨_, rfl⟩
    rw [hs2] at h2
    have hks2 : k < s2.L := by rw [← hs2]; exact hks
    have elb : (s.delF v k).lb k = s2.lb k := by rw [← hs2]; rfl
    rw [elb]
    refine ⟨_, rfl, optB_some rfl (h2.ldL hks2 ((h2.part (.lm k) hks2).1.del KTm (W64.id hv).1 fun w3 gm3 k3 => ⟨rfl, ?_⟩))⟩
    obtain ⟨O3, h3, u3⟩ := h2.llDel k3 hks2 gm3
    rw [w64_in (by omega), show (k : Int) + 1 = ((k + 1 : Nat) : Int) by omega]
    refine ih (k + 1) w3 (by omega) ⟨O3, ?_, (u1.trans u2).trans u3⟩
    have e : ({ s2 with ll := upN s2.ll k (delK (s2.ll k) v) } : HS) = s.delF v (k + 1) := by
      rw [← hs2]
      have e1 : delVr (s.fv k) (s.fe k) v = woI (s.fv k) v := by unfold delVr; rw [if_pos c0]
      have g1 := upN_step s.fv (fun j => woI (s.fv j) v) k (woI (s.fv k) v) rfl
      have g2 := upN_step s.ll (fun j => delK (s.ll j) v) k (delK (s.ll k) v) rfl
      have e3 := upN_self s.fe k
      have e4 := upN_self s.ke k
      have e5 := upN_self s.kv k
      show ({ s with fv := upN (s.delF v k).fv k (delVr ((s.delF v k).fv k) (s.fe k) v), fe := upN s.fe k (s.fe k), kv := upN s.kv k (s.kv k), ke := upN s.ke k (s.ke k), ll := upN (s.delF v k).ll k (delK ((s.delF v k).ll k) v) } : HS) = _
      rw [f1, f3, e1, e3, e4, e5]
      show ({ s with fv := upN (fun j => if j < k then woI (s.fv j) v else s.fv j) k _, ll := upN (fun j => if j < k then delK (s.ll j) v else s.ll j) k _ } : HS) = _
      rw [g1, g2]; rfl
    rw [← e]
    exact h3
theorem DelV_hg (h : HG w O s N) (hN : N < LB) (hv : W64 v) : Calls Tryz.prog 33 #[.pointer (some ⟨s.G, 0, none⟩), .int .i64 v] w fun e w' => ∃ O' s', e = .returned (.int .i64 (delVC s.vs s.ab.sk v)) ∧ HG w' O' s' N ∧ UH O w O' w' ∧ s'.G = s.G ∧ s'.vs = delVr s.vs s.ab.sk v ∧ s'.ab.sk = s.ab.sk := by
  have hN' : N < 17592186044000 := hN
  have hLL := h.L
  apply f_hdt_Graph_DelV.ok
  unfold f_hdt_Graph_DelV.wp
  refine al_new fun w1 b1 e1 z1 hb1 g1 => ?_
  refine (badIdH (hb1.ri [v] rfl) rfl (by simp)).mono ?_
  rintro _ wx ⟨⟨b, rfl, hb⟩, hx⟩
  obtain rfl : w1 = wx := hx.symm
  have h1 := h.below g1
  have u1 : UH O w O w1 := .below g1
  have hb : b = true ↔ badI v := by rw [hb]; simp
  have same : ∀ {c : Int}, delVC s.vs s.ab.sk v = c → c ≠ 0 → ∃ O' s', (Ending.returned (.int .i64 c)) = .returned (.int .i64 (delVC s.vs s.ab.sk v)) ∧ HG w1 O' s' N ∧ UH O w O' w1 ∧ s'.G = s.G ∧ s'.vs = delVr s.vs s.ab.sk v ∧ s'.ab.sk = s.ab.sk := fun {c} hc h0 => by
    refine ⟨O, s, by rw [hc], h1, u1, rfl, ?_, rfl⟩
    unfold delVr; rw [hc, if_neg h0]
  refine ⟨b, rfl, ?_⟩
  by_cases q1 : badI v
  · exact sel_t (hb.2 q1) (same (by unfold delVC; rw [if_pos q1]) (by decide))
  refine sel_f (Bool.eq_false_iff.2 fun x => q1 (hb.1 x)) ((h1.hm.has h1.ws.vk hv).mono ?_)
  rintro _ wx ⟨rfl, hx⟩
  obtain rfl : w1 = wx := hx.symm
  refine ⟨_, rfl, ?_⟩
  by_cases q0 : v ∉ s.vs
  · exact sel_t (by rw [decide_eq_false q0]; rfl) (same (by unfold delVC; rw [if_neg q1, if_pos q0]) (by decide))
  have q2 : v ∈ s.vs := Classical.not_not.1 q0
  have hdg := h.dg v q2
  refine sel_f (by rw [decide_eq_true q2]; rfl) (h1.hm.ldV ((h1.hm.part .mv).1.look KTv hv (zI w1) ?_))
  rw [hdg]
  refine ⟨_, rfl, ?_⟩
  by_cases q3 : 0 < deg s.ab.sk v
  · exact sel_t (by simp; omega) (same (by unfold delVC; rw [if_neg q1, if_neg (fun x => x q2), if_pos q3]) (by decide))
  have hd0 : deg s.ab.sk v = 0 := by have := deg_nn s.ab.sk v; omega
  refine sel_f (by simp; omega) (h1.hm.ldV ((h1.hm.part .mv).1.del KTv hv fun w2 gm2 k2 => ⟨rfl, ?_⟩))
  have hc0 : delVC s.vs s.ab.sk v = 0 := by unfold delVC; rw [if_neg q1, if_neg (fun x => x q2), if_neg q3]
  obtain ⟨O2, h2, u2⟩ := h1.hm.vlSet k2 gm2
  obtain ⟨A, hA⟩ := h.row
  have hfree := deg_zero.1 hd0
  refine h2.ldLv ?_
  rw [show ({ s with vl := delK s.vl v } : HS).lA = some A from hA]
  refine ⟨s.L + 1, DelV_l0 (s := { s with vl := delK s.vl v }) (O0 := O) (w0 := w) q1 (by show s.L ≤ 17592186044000; omega) (fun j hj => by
    have hj : j < s.L := hj
    show delVC (s.fv j) (s.fe j) v = 0
    have : deg (s.fe j) v = 0 := deg_zero.2 fun e he => hfree e (h.core.sub j e (by rw [HS.ab_fe hj]; exact he))
    unfold delVC
    rw [h.ws.fv j hj, if_neg q1, if_neg (fun x => x q2), this]; rfl) hA ?_ s.L 0 w2 rfl ⟨O2, by rw [delF_zero]; exact h2, u1.trans u2⟩⟩
  rintro w3 ⟨O3, h3, u3⟩ _
  have h3 := h3.setVs (woI s.vs v)
  obtain ⟨s3, hs3⟩ : ∃ s3 : HS, ({ HS.delF { s with vl := delK s.vl v } v s.L with vs := woI s.vs v } : HS) = s3 := ⟨_, rfl⟩
  have vaL : ∀ k y, s3.ab.lo k y = if y = v then [] else s.ab.lo k y := fun k y => by
    rw [← hs3]
    show (if k < s.L then loF (fun j => if j < s.L then delK (s.ll j) v else s.ll j) s.inn k y else []) = if y = v then [] else (if k < s.L then s.lo k y else [])
    by_cases q : k < s.L
    · rw [if_pos q, if_pos q]
      unfold HS.lo loF
      have el : (fun j => if j < s.L then delK (s.ll j) v else s.ll j) k = delK (s.ll k) v := if_pos q
      rw [el, lk_delK]
      by_cases q2 : y = v
      · rw [if_pos q2, if_pos q2.symm]
      · rw [if_neg q2, if_neg fun e => q2 e.symm]
    · rw [if_neg q, if_neg q]; split <;> rfl
  have va : VertA s.ab (woI s.vs v) s3.ab := by
    refine ⟨by rw [← hs3]; rfl, by rw [← hs3]; rfl, fun k e => by rw [← hs3]; rfl, fun k y hy => ?_, fun k y hy => ?_, fun k y hy => ?_, by rw [← hs3]; rfl⟩
    · rw [vaL, if_neg (woI_mem.1 hy).2]
    · rw [vaL]
      by_cases q : y = v
      · rw [if_pos q]
      · rw [if_neg q]
        exact lo_nil h.core fun hh => hy (woI_mem.2 ⟨hh, q⟩)
    · rw [← h.core.kv k y (woI_mem.1 hy).1]
      rw [← hs3]; rfl
  have hends : ∀ d ∈ s.ab.es, d.u ∈ woI s.vs v ∧ d.v ∈ woI s.vs v := fun d hd => by
    have hf := hfree d.e (sk_mem.2 ⟨d, hd, rfl⟩)
    exact ⟨woI_mem.2 ⟨(h.core.ends d hd).1, hf.1⟩, woI_mem.2 ⟨(h.core.ends d hd).2, hf.2⟩⟩
  have esk : s3.ab.sk = s.ab.sk := by unfold Ab.sk; rw [va.es]
  refine ⟨O3, s3, by rw [hc0], ?_, u3, by rw [← hs3]; rfl, ?_, esk⟩
  · rw [hs3] at h3
    refine ⟨h3, ⟨fun j hj => ?_, ?_, fun y => ?_, ?_, ?_, ?_⟩, fun k y => ?_, va.core h.core hends, va.sp h.sp, fun y hy => ?_, ?_, ?_⟩
    · rw [← hs3] at hj ⊢
      have hj : j < s.L := hj
      show (if j < s.L then woI (s.fv j) v else s.fv j) = woI s.vs v
      rw [if_pos hj, h.ws.fv j hj]
    · rw [← hs3]; exact woI_sorted v h.ws.vss
    · rw [← hs3]
      show y ∈ woI s.vs v ↔ (lk (delK s.vl v) y).isSome = true
      rw [woI_mem, lk_delK]
      by_cases q : v = y
      · rw [if_pos q]; simp [q.symm]
      · rw [if_neg q, ← h.ws.vk y]
        exact ⟨fun hh => hh.1, fun hh => ⟨hh, fun e => q e.symm⟩⟩
    · rw [← hs3]
      intro p hp
      exact h.ws.vr p (List.mem_filter.1 hp).1
    · rw [← hs3]
      show (delK s.vl v).length ≤ 2048
      exact Nat.le_trans (List.length_filter_le _ _) h.ws.vlen
    · rw [← hs3]; exact h.ws.L0
    · rw [← hs3]; exact h.ni k y
    · rw [esk]
      rw [← hs3] at hy ⊢
      show lk (delK s.vl v) y = _
      obtain ⟨hy1, hy2⟩ := woI_mem.1 hy
      rw [lk_delK, if_neg fun e => hy2 e.symm]
      exact h.dg y hy1
    · rw [← hs3]; exact h.el
    · rw [← hs3]; exact h.L
  · rw [← hs3]
    unfold delVr; rw [if_pos hc0]
end
def d1 (e : E) (y : Int) : Int := (if e.u = y then 1 else 0) + (if e.v = y then 1 else 0)
theorem deg_snoc (es : List E) (e : E) (y : Int) : deg (es ++ [e]) y = deg es y + d1 e y := by
  induction es with
  | nil => simp [deg, d1]
  | cons a t ih =>
    rw [List.cons_append]
    show _ + _ + deg (t ++ [e]) y = (_ + _ + deg t y) + d1 e y
    rw [ih]; omega
theorem deg_le (es : List E) (y : Int) : deg es y ≤ 2 * es.length := by
  induction es with
  | nil => simp [deg]
  | cons a t ih =>
    show _ + _ + deg t y ≤ _
    rw [List.length_cons]
    split <;> split <;> omega
theorem deg_noE : ∀ {es : List E} {e : E} (y : Int), (es.map E.id).Nodup → e ∈ es → deg es y = deg (noE es e.id) y + d1 e y := by
  intro es
  induction es with
  | nil => intro e y _ h; cases h
  | cons a t ih =>
    intro e y nd h
    rw [List.map_cons, List.nodup_cons] at nd
    rcases List.mem_cons.1 h with rfl | h
    · have e1 : noE (e :: t) e.id = t := by
        unfold noE
        rw [List.filter_cons_of_neg (by simp)]
        exact List.filter_eq_self.2 fun x hx => by
          have : x.id ≠ e.id := fun q => nd.1 (by rw [← q]; exact List.mem_map_of_mem hx)
          simp [this]
      rw [e1]
      show d1 e y + deg t y = _
      omega
    · have hne : a.id ≠ e.id := fun q => nd.1 (by rw [q]; exact List.mem_map_of_mem h)
      have e1 : noE (a :: t) e.id = a :: noE t e.id := by
        unfold noE
        rw [List.filter_cons_of_pos (by simp [hne])]
      rw [e1]
      show d1 a y + deg t y = d1 a y + deg (noE t e.id) y + d1 e y
      rw [ih y nd.2 h]; omega
def addEC (vs : List Int) (sk : List E) (id u v : Int) : Int := if badI id ∨ badI u ∨ badI v then 1 else if id ∈ sk.map E.id then 50 else if ¬ (u ∈ vs ∧ v ∈ vs) then 51 else if 2048 ≤ sk.length then 55 else 0
section
variable {w w' w0 : World} {O O' O0 : Ow} {s s' s0 : HS} {i N : Nat} {v : Int} {x : E} {u : Int}
theorem sk_ids (s : HS) : s.ab.sk.map E.id = s.es.map Ed.id := by
  unfold Ab.sk
  rw [List.map_map]; rfl
def HS.newD (s : HS) (d : Ed) (B : Nat) : HS := { s with es := s.es ++ [d], blk := fun y => if y = d.id then B else s.blk y }
theorem newD_el {id : Int} (hid : id ∉ s.es.map Ed.id) {d : Ed} (hd : d.id = id) (B : Nat) : (s.newD d B).el = s.el ++ [(id, B)] := by
  show ((s.es ++ [d]).map fun x => (x.id, if x.id = d.id then B else s.blk x.id)) = (s.es.map fun x => (x.id, s.blk x.id)) ++ [(id, B)]
  rw [List.map_append, List.map_singleton, if_pos rfl, hd]
  congr 1
  exact List.map_congr_left fun x hx => by rw [if_neg fun q => hid (by rw [← q]; exact List.mem_map_of_mem hx)]
theorem el_none (hid : v ∉ s.es.map Ed.id) : lk s.el v = none := lk_none fun p hp q => hid (by
  obtain ⟨d, hd, rfl⟩ := List.mem_map.1 hp
  have q : d.id = v := q
  rw [← q]; exact List.mem_map_of_mem hd)
theorem HM.newE (h : HM w O s) {d : Ed} (hid : d.id ∉ s.es.map Ed.id) (hidW : W64 d.id) {K : Nat → Unit → World → Prop} (hk : ∀ w' O' B, HM w' O' (s.newD d B) → UH O w O' w' → K B () w') :
    alW w (.cells (edC d) TDe) fun B w1 => ldM w1 ((⟨s.G, 0, none⟩ : Addr).add 3) fun m => Runs Tryz.prog (Instr.mapUpdate 65 (.map m) (.int .i64 d.id) (.pointer (some ⟨B, 0, none⟩))) w1 (K B) := by
  refine al_new fun w1 B e1 z1 hB1 g1 => ?_
  obtain ⟨h1, u1⟩ := h.change (s' := s) (t := .ed d.id) (Keeps.of_below (S := fun _ => False) g1) (fun _ hf => hf.elim) (fun _ _ hp => hp) (fun x hx hxi => absurd (by rw [← hxi]; exact List.mem_map_of_mem hx) hid)
  have hOB : ext O (.ed d.id) w.heap.size w1.heap.size B = some (.ed d.id) := ext_new (by omega) (by omega)
  obtain ⟨O1, hO1⟩ : ∃ O1, ext O (.ed d.id) w.heap.size w1.heap.size = O1 := ⟨_, rfl⟩
  rw [hO1] at h1 u1 hOB
  refine h1.ldE ((h1.part .me).1.upd (v := B) KTp hidW fun w2 gm2 k2 => ?_)
  have hOm := (h1.part .me).2
  have hBm : B ≠ s.me := fun e => by rw [e, hOm] at hOB; cases hOB
  obtain ⟨h2, u2⟩ := h1.change (s' := s.newD d B) (t := .me) k2 (fun b hb => by rw [hb]; exact hOm) (fun t' ht hp => by
    cases t' with
    | me => exact absurd rfl ht
    | ed id =>
      intro x hx hxi
      rcases List.mem_append.1 hx with hx | hx
      · have hne : id ≠ d.id := fun q => hid (by rw [← q, ← hxi]; exact List.mem_map_of_mem hx)
        show HB w2 (if id = d.id then B else s.blk id) _ _ ∧ ext _ _ _ _ (if id = d.id then B else s.blk id) = _
        rw [if_neg hne]
        exact hp x hx hxi
      · rw [List.mem_singleton] at hx
        subst hx
        subst hxi
        show HB w2 (if x.id = x.id then B else s.blk x.id) _ _ ∧ ext _ _ _ _ (if x.id = x.id then B else s.blk x.id) = _
        rw [if_pos rfl]
        exact ⟨hB1.keeps k2 hBm, by rw [ext_old (h1.dom _ _ hOB)]; exact hOB⟩
    | g => exact hp
    | sd => exact hp
    | lr => exact hp
    | mv => exact hp
    | lv j => exact hp
    | fo j => exact hp
    | lm j => exact hp
    | inn j v => exact hp) (by
      refine ⟨?_, (ext_old (h1.dom _ _ hOm)).trans hOm⟩
      rw [newD_el hid rfl]
      have e : putK s.el d.id B = s.el ++ [(d.id, B)] := by
        unfold putK
        rw [lk_notmem (el_none hid)]; rfl
      rw [← e]
      exact gm2)
  exact hk w2 _ B h2 (u1.trans u2)
theorem vl_ws (ws : WS s) (ndl : NdK s.vl) {l : List (Int × Int)} (nd : NdK l) (hk : ∀ y, (lk l y).isSome = (lk s.vl y).isSome) : WS { s with vl := l } := by
  have hv : ∀ y, y ∈ s.vs ↔ (lk l y).isSome = true := fun y => by rw [hk]; exact ws.vk y
  have hr : ∀ p ∈ l, ¬ badI p.1 := fun p hp => ws.ok ((hv p.1).2 (by rw [lk_mem nd hp]; rfl))
  refine ⟨ws.fv, ws.vss, hv, hr, ?_, ws.L0⟩
  have p : (l.map Prod.fst).Perm s.vs := (List.perm_ext_iff_of_nodup nd (sorted_nodup ws.vss)).2 fun y => by
    rw [hv y]
    cases hq : lk l y with
    | none =>
      simp only [Option.isSome_none, Bool.false_eq_true, iff_false, List.mem_map, not_exists, not_and]
      intro p hp e
      exact lk_none_iff.1 hq p hp e
    | some z =>
      simp only [Option.isSome_some, iff_true]
      exact List.mem_map.2 ⟨_, lk_some hq, rfl⟩
  have p2 := vs_len ws ndl
  have p3 := ws.vlen
  have := p.length_eq
  rw [List.length_map] at this
  show l.length ≤ 2048
  omega
theorem HM.vlUp (h : HM w O s) {y z by_ : Int} (hyW : W64 y) (hy : lk s.vl y = some z) (hb : -100000 ≤ z ∧ z ≤ 100000) (hby : by_ = 1 ∨ by_ = -1) {K : World → Prop}
    (hk : ∀ w' O', HM w' O' { s with vl := putK s.vl y (z + by_) } → UH O w O' w' → Keeps (fun k => k = s.mv) w w' → K w') {f : Int → Int} (hf : f z = IntKind.i64.wrap (z + by_)) :
    Runs Tryz.prog (Instr.lookup 64 (.map (some s.mv)) (.int .i64 y) false) w fun v26 w25 => ∃ (x27 : Int), v26 = (.int .i64 x27) ∧ (
    Runs Tryz.prog (Instr.mapUpdate 64 (.map (some s.mv)) (.int .i64 y) (.int .i64 (f x27))) w25 fun _ w28 => K w28) := by
  refine (h.part .mv).1.look KTv hyW (zI w) ?_
  rw [hy]
  refine ⟨_, rfl, ?_⟩
  rw [hf, w64_in (by omega)]
  refine (h.part .mv).1.upd (v := z + by_) KTv hyW fun w1 gm1 k1 => ?_
  obtain ⟨O1, h1, u1⟩ := h.vlSet k1 gm1
  exact hk w1 O1 h1 u1 k1
def endL (l : List (Int × Int)) (es : List E) (e : E) (by_ : Int) : List (Int × Int) := putK (putK l e.u (deg es e.u + by_)) e.v ((deg es e.v + if e.u = e.v then by_ else 0) + by_)
theorem end_v {l : List (Int × Int)} {es : List E} {e : E} {by_ : Int} (hv : lk l e.v = some (deg es e.v)) : lk (putK l e.u (deg es e.u + by_)) e.v = some (deg es e.v + if e.u = e.v then by_ else 0) := by
  rw [lk_putK]
  by_cases q : e.u = e.v
  · rw [if_pos q, if_pos q, q]
  · rw [if_neg q, if_neg q, hv]; simp
theorem endL_ok (ws : WS s) (ndl : NdK s.vl) {es : List E} (dg : ∀ y ∈ s.vs, lk s.vl y = some (deg es y)) {e : E} (hu : e.u ∈ s.vs) (hv : e.v ∈ s.vs) {by_ : Int} (hby : by_ = 1 ∨ by_ = -1) :
    WS { s with vl := endL s.vl es e by_ } ∧ ∀ y ∈ s.vs, lk (endL s.vl es e by_) y = some (deg es y + by_ * d1 e y) := by
  have look : ∀ y, lk (endL s.vl es e by_) y = if e.v = y then some ((deg es e.v + if e.u = e.v then by_ else 0) + by_) else if e.u = y then some (deg es e.u + by_) else lk s.vl y := fun y => by
    unfold endL
    rw [lk_putK, lk_putK]
  refine ⟨vl_ws ws ndl (NdK.put (NdK.put ndl _ _) _ _) fun y => ?_, fun y hy => ?_⟩
  · rw [look]
    by_cases q1 : e.v = y
    · rw [if_pos q1, ← q1, dg _ hv]; rfl
    · rw [if_neg q1]
      by_cases q2 : e.u = y
      · rw [if_pos q2, ← q2, dg _ hu]; rfl
      · rw [if_neg q2]
  · rw [look]
    unfold d1
    by_cases q1 : e.v = y
    · subst q1
      rw [if_pos rfl]
      by_cases q2 : e.u = e.v
      · rw [if_pos q2, if_pos q2, if_pos rfl]; congr 1; omega
      · rw [if_neg q2, if_neg q2, if_pos rfl]; congr 1; omega
    · rw [if_neg q1]
      by_cases q2 : e.u = y
      · subst q2
        rw [if_pos rfl, if_pos rfl, if_neg q1]; congr 1; omega
      · rw [if_neg q2, if_neg q2, if_neg q1, dg _ hy]; congr 1; omega
end
section
variable {w w' w0 : World} {O O' O0 : Ow} {s s' s0 : HS} {i N : Nat} {v : Int} {x : E} {u : Int}
theorem linkC_val {vs : List Int} {es : List E} {e : E} (h1 : ¬ badI e.id) (hu : ¬ badI e.u) (hv : ¬ badI e.v) (h2 : e.u ∈ vs) (h3 : e.v ∈ vs) (h0 : e.w = 0) (h4 : e.id ∉ es.map E.id) (j : Bool) : linkC vs es e j = if j = true then 151 else 0 := by
  unfold linkC
  rw [if_neg (fun h => h.elim h1 fun h => h.elim hu hv), if_neg (by rw [h0]; omega), if_neg h4, if_neg (fun h => h ⟨h2, h3⟩)]
theorem setF_self : s.setF i (s.fv i) (s.fe i) (s.kv i) (s.ke i) = s := by
  unfold HS.setF
  rw [upN_self, upN_self, upN_self, upN_self]
theorem HG.newE (h : HG w O s N) {d : Ed} (hno : d.id ∉ s.es.map Ed.id) (he : d.u ∈ s.vs ∧ d.v ∈ s.vs) (hok : ¬ badI d.id) (hl : d.lv = 0) (hlen : s.es.length < 2048) (ht : d.tr = true → d.u ≠ d.v ∧ ¬ Cn (s.ab.fe 0) d.u d.v) (hf : d.tr = false → Cn (s.ab.fe 0) d.u d.v)
    (hm' : HM w' O' s') (hvs : s'.vs = s.vs) (hvl : s'.vl = endL s.vl s.ab.sk d.e 1) (ws' : WS s') (ni' : NoIt s') (hL : s'.L = s.L) (na : NewA s.ab d s'.ab) : HG w' O' s' N ∧ s'.ab.sk = s.ab.sk ++ [d.e] := by
  have esk : s'.ab.sk = s.ab.sk ++ [d.e] := by
    unfold Ab.sk
    rw [na.es, List.map_append, List.map_singleton]
  have es' : s'.es = s.es ++ [d] := na.es
  refine ⟨⟨hm', ws', ni', na.core h.core hno he hok hl ht, na.sp h.core hl hf h.sp, fun y hy => ?_, ?_, by rw [hL]; exact h.L⟩, esk⟩
  · rw [hvs] at hy
    rw [esk, hvl, (endL_ok h.ws h.nd h.dg (e := d.e) he.1 he.2 (.inl rfl)).2 y hy, deg_snoc]
    congr 1; omega
  · rw [es', List.length_append]
    exact hlen
theorem AddE_hg (h : HG w O s N) (hN : N < LB) {id : Int} (hidW : W64 id) (huW : W64 u) (hvW : W64 v) : Calls Tryz.prog 18 #[.pointer (some ⟨s.G, 0, none⟩), .int .i64 id, .int .i64 u, .int .i64 v] w fun e w' => ∃ O' s', e = .returned (.int .i64 (addEC s.vs s.ab.sk id u v)) ∧ HG w' O' s' N ∧ UH O w O' w' ∧ s'.G = s.G ∧ s'.vs = s.vs ∧ s'.ab.sk = if addEC s.vs s.ab.sk id u v = 0 then s.ab.sk ++ [⟨id, u, v, 0⟩] else s.ab.sk := by
  have hN' : N < 17592186044000 := hN
  have hLL := h.L
  have h0L := h.ws.L0
  apply f_hdt_Graph_AddE.ok
  unfold f_hdt_Graph_AddE.wp
  refine al_new fun w1 b1 e1 z1 hb1 g1 => ?_
  refine (badIdH (hb1.ri [id, u, v] rfl) rfl (by simp)).mono ?_
  rintro _ wx ⟨⟨b, rfl, hb⟩, hx⟩
  obtain rfl : w1 = wx := hx.symm
  have h1 := h.below g1
  have u1 : UH O w O w1 := .below g1
  have hb : b = true ↔ badI id ∨ badI u ∨ badI v := by rw [hb]; simp
  have same : ∀ {c : Int}, addEC s.vs s.ab.sk id u v = c → c ≠ 0 → ∃ O' s', (Ending.returned (.int .i64 c)) = .returned (.int .i64 (addEC s.vs s.ab.sk id u v)) ∧ HG w1 O' s' N ∧ UH O w O' w1 ∧ s'.G = s.G ∧ s'.vs = s.vs ∧ s'.ab.sk = if addEC s.vs s.ab.sk id u v = 0 then s.ab.sk ++ [⟨id, u, v, 0⟩] else s.ab.sk := fun {c} hc h0 => by
    exact ⟨O, s, by rw [hc], h1, u1, rfl, rfl, by rw [hc, if_neg h0]⟩
  refine ⟨b, rfl, ?_⟩
  by_cases q1 : badI id ∨ badI u ∨ badI v
  · exact sel_t (hb.2 q1) (same (by unfold addEC; rw [if_pos q1]) (by decide))
  have hids := sk_ids s
  refine sel_f (Bool.eq_false_iff.2 fun x => q1 (hb.1 x)) (h1.hm.ldE ((h1.hm.part .me).1.look KTp hidW (zP' w1) ?_))
  by_cases q2 : id ∈ s.ab.sk.map E.id
  · have : ∃ d ∈ s.es, d.id = id := by rw [hids] at q2; exact List.mem_map.1 q2
    obtain ⟨d, hd, rfl⟩ := this
    rw [el_lk h.core.ids hd]
    exact ⟨_, rfl, sel_t rfl (same (by unfold addEC; rw [if_neg q1, if_pos q2]) (by decide))⟩
  have hno : id ∉ s.es.map Ed.id := by rw [← hids]; exact q2
  rw [el_none hno]
  refine ⟨none, rfl, sel_f rfl ((h1.hm.has h1.ws.vk huW).mono ?_)⟩
  rintro _ wx ⟨rfl, hx⟩
  obtain rfl : w1 = wx := hx.symm
  refine ⟨_, rfl, ?_⟩
  by_cases q3 : u ∉ s.vs
  · exact sel_t (by rw [decide_eq_false q3]; rfl) (same (by unfold addEC; rw [if_neg q1, if_neg q2, if_pos fun x => q3 x.1]) (by decide))
  have hu := Classical.not_not.1 q3
  refine sel_f (by rw [decide_eq_true hu]; rfl) ((h1.hm.has h1.ws.vk hvW).mono ?_)
  rintro _ wx ⟨rfl, hx⟩
  obtain rfl : w1 = wx := hx.symm
  refine ⟨_, rfl, ?_⟩
  by_cases q4 : v ∉ s.vs
  · exact sel_t (by rw [decide_eq_false q4]; rfl) (same (by unfold addEC; rw [if_neg q1, if_neg q2, if_pos fun x => q4 x.2]) (by decide))
  have hv := Classical.not_not.1 q4
  refine sel_f (by rw [decide_eq_true hv]; rfl) (h1.hm.ldE ((h1.hm.part .me).1.len KTp ⟨_, rfl, ?_⟩))
  have hell : s.el.length = s.ab.sk.length := by
    unfold HS.el Ab.sk
    rw [List.length_map, List.length_map]; rfl
  by_cases q5 : 2048 ≤ s.ab.sk.length
  · exact sel_t (by simp; omega) (same (by unfold addEC; rw [if_neg q1, if_neg q2, if_neg (fun x => x ⟨hu, hv⟩), if_pos q5]) (by decide))
  have hc0 : addEC s.vs s.ab.sk id u v = 0 := by unfold addEC; rw [if_neg q1, if_neg q2, if_neg (fun x => x ⟨hu, hv⟩), if_neg q5]
  have hlen : s.es.length < 2048 := by
    have : s.ab.sk.length = s.es.length := List.length_map _
    omega
  refine sel_f (by simp; omega) ?_
  rw [hc0]
  simp only [if_pos]
  obtain ⟨d0, hd0⟩ : ∃ d0 : Ed, (⟨id, u, v, 0, false⟩ : Ed) = d0 := ⟨_, rfl⟩
  have hok : ¬ badI d0.id := by rw [← hd0]; exact fun x => q1 (.inl x)
  have oku : ¬ badI u := fun x => q1 (.inr (.inl x))
  have okv : ¬ badI v := fun x => q1 (.inr (.inr x))
  have hno0 : d0.id ∉ s.es.map Ed.id := by rw [← hd0]; exact hno
  have ne := h1.hm.newE (d := d0) hno0 (by rw [← hd0]; exact hidW) (K := fun B _ w23 => ldM w23 ((⟨s.G, 0, none⟩ : Addr).add 2) fun m24 =>
    Runs Tryz.prog (Instr.lookup 64 (.map m24) (.int .i64 u) false) w23 fun v26 w25 => ∃ (x27 : Int), v26 = (.int .i64 x27) ∧ (
    Runs Tryz.prog (Instr.mapUpdate 64 (.map m24) (.int .i64 u) (.int .i64 (IntKind.i64.wrap (x27 + (1 : Int))))) w25 fun _ w28 =>
    ldM w28 ((⟨s.G, 0, none⟩ : Addr).add 2) fun m29 =>
    Runs Tryz.prog (Instr.lookup 64 (.map m29) (.int .i64 v) false) w28 fun v31 w30 => ∃ (x32 : Int), v31 = (.int .i64 x32) ∧ (
    Runs Tryz.prog (Instr.mapUpdate 64 (.map m29) (.int .i64 v) (.int .i64 (IntKind.i64.wrap (x32 + (1 : Int))))) w30 fun _ w33 =>
    f_hdt_Graph_AddE.j0 ⟨s.G, 0, none⟩ id u v (⟨B, 0, Option.none⟩ : Addr) w33 (fun (x50 : Int) (w51 : World) => ∀ _ : Go.Dn.Fr,
    ∃ O' s', (Ending.returned (.int .i64 x50)) = .returned (.int .i64 0) ∧ HG w51 O' s' N ∧ UH O w O' w51 ∧ s'.G = s.G ∧ s'.vs = s.vs ∧ s'.ab.sk = s.ab.sk ++ [⟨id, u, v, 0⟩])))) fun w2 O2 B h2 u2 => ?_
  · rw [← hd0] at ne
    exact ne
  have hE : d0.e = ⟨id, u, v, 0⟩ := by rw [← hd0]; rfl
  have hdb : ∀ y, 0 ≤ deg s.ab.sk y ∧ deg s.ab.sk y ≤ 4096 := fun y => ⟨deg_nn _ _, by have := deg_le s.ab.sk y; omega⟩
  refine h2.ldV (h2.vlUp (s := s.newD d0 B) (y := u) (z := deg s.ab.sk u) (by_ := 1) huW (h.dg u hu) (by have := hdb u; omega) (.inl rfl) (fun w3 O3 h3 u3 _ => ?_) rfl)
  have ev := end_v (l := s.vl) (es := s.ab.sk) (e := ⟨id, u, v, 0⟩) (by_ := 1) (h.dg v hv)
  refine h3.ldV (h3.vlUp (y := v) (z := deg s.ab.sk v + if u = v then 1 else 0) (by_ := 1) hvW ev (by have := hdb v; split <;> omega) (.inl rfl) (fun w4 O4 h4 u4 _ => ?_) rfl)
  obtain ⟨s2, hs2⟩ : ∃ s2 : HS, ({ s.newD d0 B with vl := endL s.vl s.ab.sk ⟨id, u, v, 0⟩ 1 } : HS) = s2 := ⟨_, rfl⟩
  have h4 : HM w4 O4 s2 := by rw [← hs2]; exact h4
  have u04 : UH O w O4 w4 := ((u1.trans u2).trans u3).trans u4
  have h4 : At O w w4 s2 := ⟨O4, h4, u04⟩
  have G2 : s2.G = s.G := by rw [← hs2]; rfl
  have L2 : s2.L = s.L := by rw [← hs2]; rfl
  have vs2 : s2.vs = s.vs := by rw [← hs2]; rfl
  have vl2 : s2.vl = endL s.vl s.ab.sk d0.e 1 := by rw [hE, ← hs2]
  have blk2 : s2.blk d0.id = B := by rw [← hs2]; exact if_pos rfl
  have es2 : s2.es = s.es ++ [d0] := by rw [← hs2]; rfl
  have ab2 : s2.ab = { s.ab with es := s.es ++ [d0] } := by rw [← hs2]; rfl
  have ws2 : WS s2 := by
    have := (endL_ok h.ws h.nd h.dg (e := ⟨id, u, v, 0⟩) hu hv (.inl rfl)).1
    rw [← hs2]
    exact ⟨this.fv, this.vss, this.vk, this.vr, this.vlen, this.L0⟩
  have ni2 : NoIt s2 := fun k y => by rw [← hs2]; exact h.ni k y
  have hd2 : d0 ∈ s2.es := by rw [es2]; exact List.mem_append_right _ (List.mem_singleton.2 rfl)
  have nd2 : (s2.es.map Ed.id).Nodup := by
    rw [es2, List.map_append, List.nodup_append]
    refine ⟨h.core.ids, by simp, fun i hi j hj => ?_⟩
    simp only [List.map_cons, List.map_nil, List.mem_singleton] at hj
    subst hj
    intro hh; subst hh
    exact hno0 hi
  have hends : d0.u ∈ s.vs ∧ d0.v ∈ s.vs := by rw [← hd0]; exact ⟨hu, hv⟩
  have fin : ∀ (d : Ed) (w' : World) (s' : HS), d.e = d0.e → d.lv = 0 → (d.tr = true → d.u ≠ d.v ∧ ¬ Cn (s.ab.fe 0) d.u d.v) → (d.tr = false → Cn (s.ab.fe 0) d.u d.v) → At O w w' s' → Rw s2 s' → s'.L = s2.L → NoIt s' → NewA s.ab d s'.ab → ∃ O' s', (Ending.returned (.int .i64 0)) = .returned (.int .i64 0) ∧ HG w' O' s' N ∧ UH O w O' w' ∧ s'.G = s.G ∧ s'.vs = s.vs ∧ s'.ab.sk = s.ab.sk ++ [⟨id, u, v, 0⟩] := by
    intro d w' s' he hl ht hf hA r hL hni na
    obtain ⟨O', hm', u'⟩ := hA
    have hi : d.id = d0.id := congrArg E.id he
    have huu : d.u = d0.u := congrArg E.u he
    have hvv : d.v = d0.v := congrArg E.v he
    obtain ⟨k1, k2⟩ := h.newE (d := d) (by rw [hi]; exact hno0) (by rw [huu, hvv]; exact hends) (by rw [hi]; exact hok) hl hlen ht hf hm' (r.vs.trans vs2) (by rw [r.vl, vl2, he]) (r.ws ws2) hni (hL.trans L2) na
    exact ⟨O', s', rfl, k1, u', r.G.trans G2, r.vs.trans vs2, by rw [k2, he, hE]⟩
  have kvS : ∀ k, ∀ y ∈ s.ab.vs, (s.ab.kv k y = true ↔ s.ab.lo k y ≠ []) := h.core.kv
  unfold f_hdt_Graph_AddE.j0
  by_cases q6 : u = v
  · refine sel_t (by simp [q6]) fun _ => fin d0 w4 s2 rfl (by rw [← hd0]) (fun e => by rw [← hd0] at e; cases e) (fun _ => by rw [← hd0, ← q6]; exact Cn.refl _ _) h4 (.refl _) rfl ni2 ?_
    rw [ab2]
    refine ⟨rfl, rfl, fun e => ?_, fun _ _ _ => Iff.rfl, fun k y id' => ?_, kvS, (fun e => by rw [← hd0] at e; cases e), fun _ _ _ => rfl⟩
    · rw [if_neg (by rw [← hd0]; exact Bool.false_ne_true)]
    · rw [if_neg fun hh => hh.2.2.1 (by rw [← hd0]; exact q6)]
  have hne0 : d0.u ≠ d0.v := by rw [← hd0]; exact q6
  have h0 : 0 < s2.L := by rw [L2]; exact h0L
  rw [← G2] at fin ⊢
  refine sel_f (by simpa using q6) ((h4.at_in (i := 0) h0 (by omega)).mono ?_)
  rintro _ wx ⟨rfl, hx⟩
  obtain rfl : w4 = wx := hx.symm
  refine ⟨_, rfl, optB_some rfl (h4.ldF h0 ?_)⟩
  obtain ⟨O4', hm4, u4'⟩ := h4
  have fe0 : s2.fe 0 = s.ab.fe 0 := by rw [← HS.ab_fe h0, ab2]
  have fv0 : s2.fv 0 = s.vs := (ws2.fv 0 h0).trans vs2
  have hnf : d0.id ∉ (s2.fe 0).map E.id := fun hm => by
    rw [fe0] at hm
    obtain ⟨e, he, hid⟩ := List.mem_map.1 hm
    have := h.core.sub 0 e he
    exact hno0 (by rw [← hid, ← hids]; exact List.mem_map_of_mem this)
  have lnk := hm4.link h0 (e := d0.e) (by rw [hE]; exact hidW) (by rw [hE]; exact huW) (by rw [hE]; exact hvW) rfl
  rw [hE] at lnk
  refine lnk.mono ?_
  rintro _ w5 ⟨j, O5, hj, rfl, h5, u5⟩
  refine ⟨_, rfl, ?_⟩
  have lv : linkC (s2.fv 0) (s2.fe 0) ⟨id, u, v, 0⟩ j = if j = true then 151 else 0 := linkC_val (e := ⟨id, u, v, 0⟩) (fun x => q1 (.inl x)) oku okv (by rw [fv0]; exact hu) (by rw [fv0]; exact hv) rfl (by rw [← hd0] at hnf; exact hnf) j
  have hjv : j = true ↔ Cn (s.ab.fe 0) u v := by
    rw [← fe0]
    exact hj (by rw [fv0]; exact hu) (by rw [fv0]; exact hv)
  cases j with
  | true =>
    have hcn := hjv.1 rfl
    rw [lv, if_pos rfl]
    have e1 : linkEr (s2.fv 0) (s2.fe 0) ⟨id, u, v, 0⟩ true = s2.fe 0 := by unfold linkEr; rw [lv]; rfl
    have e2 : keL (s2.fv 0) (s2.fe 0) (s2.ke 0) ⟨id, u, v, 0⟩ true = s2.ke 0 := by
      funext y; unfold keL; rw [lv]; exact if_neg fun hh => absurd hh.1 (by decide)
    rw [e1, e2, setF_self] at h5
    have h5 : At O w w5 s2 := ⟨O5, h5, u4'.trans u5⟩
    refine sel_f (by decide) ?_
    have hE5 := h5.ed hd2
    rw [blk2] at hE5
    have hg := h5.hang ws2 h0 (d := d0) hE5 hne0 hok (by rw [vs2]; exact hends.1) (by rw [vs2]; exact hends.2) true (fun y _ r l c e => by rw [ni2 0 y] at e; cases e)
    have hidd : d0.id = id := congrArg E.id hE
    rw [hidd] at hg
    refine hg.mono ?_
    rintro _ w6 ⟨rfl, s3, h6, r3, t3, L3, g3⟩
    refine ⟨rfl, fun _ => fin d0 w6 s3 rfl (by rw [← hd0]) (fun e => by rw [← hd0] at e; cases e) (fun _ => by rw [← hd0]; exact hcn) h6 r3 L3 (fun k y => t3.n k y (ni2 k y)) ?_⟩
    have g := g3
    rw [ab2] at g
    refine ⟨g.vs, g.es, fun e => ?_, fun k _ e => by rw [g.fe], fun k y id' => ?_, fun k y hy => g.kvA kvS k y (by rw [g.vs]; exact hy), (fun e => by rw [← hd0] at e; cases e), fun k id' _ => by rw [g.ke]⟩
    · rw [g.fe, if_neg (by rw [← hd0]; exact Bool.false_ne_true)]
    · have q := g.lo k y id'
      rw [if_pos (c := true = true) rfl] at q
      rw [q]
      by_cases p : k = 0 ∧ d0.at y
      · rw [if_pos p, if_pos ⟨p.2, p.1, hne0, by rw [← hd0]⟩]
      · rw [if_neg p, if_neg fun hh => p ⟨hh.2.1, hh.1⟩]
  | false =>
    have hcn : ¬ Cn (s.ab.fe 0) u v := fun hh => by have := hjv.2 hh; cases this
    rw [lv, if_neg (by decide)]
    have e1 : linkEr (s2.fv 0) (s2.fe 0) ⟨id, u, v, 0⟩ false = insE (s2.fe 0) ⟨id, u, v, 0⟩ := by unfold linkEr; rw [lv]; rfl
    have e2 : keL (s2.fv 0) (s2.fe 0) (s2.ke 0) ⟨id, u, v, 0⟩ false = fun y => if y = id then false else s2.ke 0 y := by
      funext y; unfold keL; rw [lv]; simp
    rw [e1, e2] at h5
    obtain ⟨s3, hs3⟩ : ∃ s3, s2.setF 0 (s2.fv 0) (insE (s2.fe 0) ⟨id, u, v, 0⟩) (s2.kv 0) (fun y => if y = id then false else s2.ke 0 y) = s3 := ⟨_, rfl⟩
    have r3 : Rs s2 s3 := by rw [← hs3]; exact setF_rs
    have L3 : s3.L = s2.L := by rw [← hs3]; rfl
    have es3 : s3.es = s2.es := by rw [← hs3]; rfl
    have ab3 : s3.ab = { s2.ab with fe := upN s2.ab.fe 0 (insE (s2.fe 0) ⟨id, u, v, 0⟩), kv := upN s2.ab.kv 0 (s2.kv 0), ke := upN s2.ab.ke 0 (fun y => if y = id then false else s2.ke 0 y) } := by rw [← hs3]; exact HS.setF_ab h0
    rw [← HS.ab_kv h0, ← HS.ab_ke h0, upN_self, fe0, ab2] at ab3
    rw [hs3] at h5
    have h5 : At O w w5 s3 := ⟨O5, h5, u4'.trans u5⟩
    have st := fun {K} hk => h5.stD (K := K) (d := d0) (d' := { d0 with tr := true }) (by rw [es3]; exact nd2) (by rw [es3]; exact hd2) rfl (j := 3) (by omega) (v := .bool true) rfl hk
    have blk3 : s3.blk d0.id = B := by rw [r3.blk]; exact blk2
    rw [blk3] at st
    refine sel_t (by decide) (st fun w6 h6 => ?_)
    obtain ⟨s4, hs4⟩ : ∃ s4, s3.setD { d0 with tr := true } = s4 := ⟨_, rfl⟩
    have r4 : Rs s3 s4 := by rw [← hs4]; exact setD_rs _
    have L4 : s4.L = s3.L := by rw [← hs4]; rfl
    have ab4 : s4.ab = { s3.ab with es := setE s3.es { d0 with tr := true } } := by rw [← hs4]; rfl
    rw [hs4] at h6
    have h04 : 0 < s4.L := by omega
    have elb : s2.lb 0 = s4.lb 0 := ((r3.trans r4).lb 0 h0).symm
    rw [elb]
    refine optB_some rfl (h6.ldF h04 ((h6.markE h04 hidW true).mono ?_))
    rintro _ w7 ⟨c7, rfl, h7⟩
    have r5 : Rs s4 (s4.markF 0 id true) := setF_rs
    have ab5 : (s4.markF 0 id true).ab = { s4.ab with fe := upN s4.ab.fe 0 (s4.fe 0), kv := upN s4.ab.kv 0 (s4.kv 0), ke := upN s4.ab.ke 0 (keM (s4.fe 0) (s4.ke 0) id true) } := HS.setF_ab h04
    rw [← HS.ab_fe h04, ← HS.ab_kv h04, ← HS.ab_ke h04, upN_self, upN_self, ab4, ab3] at ab5
    have ees : setE s3.es { d0 with tr := true } = s.es ++ [{ d0 with tr := true }] := by
      rw [es3, es2]
      unfold setE
      rw [List.map_append, List.map_singleton, if_pos rfl]
      congr 1
      conv => rhs; rw [← List.map_id s.es]
      refine List.map_congr_left fun x hx => if_neg fun q => hno0 ?_
      have q : x.id = d0.id := q
      rw [← q]; exact List.mem_map_of_mem hx
    rw [ees] at ab5
    refine ⟨_, rfl, fun _ => fin { d0 with tr := true } w7 (s4.markF 0 id true) rfl (by rw [← hd0]) (fun _ => ⟨hne0, by rw [← hd0]; exact hcn⟩) (fun e => by cases e) h7 ((r3.trans r4).trans r5).rw (by show s4.L = s2.L; omega) (fun k y => by rw [((r3.trans r4).trans r5).it]; exact ni2 k y) ?_⟩
    have hidd : d0.id = id := congrArg E.id hE
    have fe5 : (s4.markF 0 id true).ab.fe = upN s.ab.fe 0 (insE (s.ab.fe 0) ⟨id, u, v, 0⟩) := (congrArg Ab.fe ab5).trans rfl
    have ke5 : (s4.markF 0 id true).ab.ke = upN (upN s.ab.ke 0 (fun y => if y = id then false else s.ab.ke 0 y)) 0 (keM (upN s.ab.fe 0 (insE (s.ab.fe 0) ⟨id, u, v, 0⟩) 0) (upN s.ab.ke 0 (fun y => if y = id then false else s.ab.ke 0 y) 0) id true) := (congrArg Ab.ke ab5).trans rfl
    have lo5 : (s4.markF 0 id true).ab.lo = s.ab.lo := (congrArg Ab.lo ab5).trans rfl
    have kv5 : (s4.markF 0 id true).ab.kv = s.ab.kv := (congrArg Ab.kv ab5).trans rfl
    refine ⟨(congrArg Ab.vs ab5).trans rfl, (congrArg Ab.es ab5).trans rfl, fun e => ?_, fun k hk e => ?_, fun k y id' => ?_, by rw [kv5, lo5]; exact kvS, fun _ => ?_, fun k id' hk => ?_⟩
    · rw [fe5, upN_same, if_pos rfl, insE_mem, List.mem_append, List.mem_singleton, or_comm, ← hE]; rfl
    · rw [fe5, upN_ne _ _ (by omega)]
    · rw [lo5, if_neg fun hh => by have := hh.2.2.2; cases this]
    · rw [ke5, upN_same]
      unfold keM
      refine if_pos ⟨?_, hidd⟩
      rw [upN_same]
      exact insE_ids.2 (.inl rfl)
    · have hk : id' ≠ id := by rw [← hidd]; exact hk
      rw [ke5]
      by_cases q : k = 0
      · subst q
        rw [upN_same]
        unfold keM
        rw [if_neg fun x => hk x.2, upN_same, if_neg hk]
      · rw [upN_ne _ _ q, upN_ne _ _ q]
end
theorem noD_sk (es : List Ed) (i : Int) : (noD es i).map Ed.e = noE (es.map Ed.e) i := by
  unfold noD noE
  rw [List.filter_map]; rfl
theorem Sp.any {a : Ab} {x y : E} (h : Sp a x 0) : Sp a y 0 := fun d hd ht hl => by
  have := h d hd ht hl
  rw [if_neg (by omega)] at this ⊢
  exact this
section
variable {w w' w0 : World} {O O' O0 : Ow} {s s' s0 : HS} {i N : Nat} {v : Int} {x : E} {u : Int}
theorem At.keep (h : At O0 w0 w s) {b : Nat} {cs : Array Value} {t : TypeId} (hb : HB w0 b cs t) (hO : O0 b = none) : HB w b cs t := by
  obtain ⟨O, hm, u⟩ := h
  exact hb.keeps u.kp fun hk => hk hO
theorem lv_lt (c : Core s.ab) {d : Ed} (hd : d ∈ s.es) (hn : d.u ≠ d.v) : d.lv < s.L := by
  apply Classical.byContradiction
  intro hL
  by_cases ht : d.tr = true
  · have : d.e ∈ s.ab.fe d.lv := (c.fe d.lv _).2 ⟨d, hd, ht, Nat.le_refl _, rfl⟩
    have e : s.ab.fe d.lv = [] := if_neg hL
    rw [e] at this; cases this
  · have : d.id ∈ s.ab.lo d.lv d.u := (c.lo d.lv d.u d.id).2 ⟨d, hd, rfl, by simpa using ht, hn, rfl, .inl rfl⟩
    have e : s.ab.lo d.lv d.u = [] := if_neg hL
    rw [e] at this; cases this
theorem el_noD (id : Int) : HS.el { s with es := noD s.es id } = delK s.el id := by
  unfold HS.el noD delK
  rw [List.filter_map]
  congr 1
theorem HM.delE (h : HM w O s) {d : Ed} (hd : d ∈ s.es) (nd : (s.es.map Ed.id).Nodup) (k : Keeps (fun k => k = s.me) w w') (hm : GM w' eI ePt W64 s.me (delK s.el d.id)) : ∃ O', HM w' O' { s with es := noD s.es d.id } ∧ UH O w O' w' ∧ O' (s.blk d.id) = none ∧ HB w' (s.blk d.id) (edC d) TDe := by
  obtain ⟨hb, hO⟩ := h.part (.ed d.id) d hd rfl
  have hOm := (h.part .me).2
  have hbm : s.blk d.id ≠ s.me := fun e => by rw [e, hOm] at hO; cases hO
  obtain ⟨O', hO'⟩ : ∃ O' : Ow, O' = fun k => if k = s.blk d.id then none else O k := ⟨_, rfl⟩
  have old : ∀ {t}, t ≠ .ed d.id → ∀ b, O b = some t → O' b = some t := fun {t} ht b hb => by
    rw [hO']
    show (if b = s.blk d.id then none else O b) = some t
    rw [if_neg fun q => ht (by rw [q, hO] at hb; injection hb with hb; exact hb.symm)]
    exact hb
  have keep : ∀ t, t ≠ .ed d.id → t ≠ .me → Part s O' w' t := fun t h1 h2 => ((h.part t).keep k fun b hb e => by rw [e, hOm] at hb; injection hb with hb; exact h2 hb.symm).mono (old h1)
  refine ⟨O', ⟨fun t => ?_, fun b t e => ?_⟩, ⟨k.mono fun b _ e hh => (by rw [e, hOm] at hh; cases hh), fun b e => ?_⟩, by rw [hO']; exact if_pos rfl, hb.keeps k hbm⟩
  · cases t with
    | me => exact ⟨by rw [el_noD]; exact hm, old (by simp) _ hOm⟩
    | ed id =>
      intro x hx hxi
      obtain ⟨hx1, hx2⟩ := noD_mem.1 hx
      exact keep (.ed id) (by rw [← hxi]; intro q; injection q with q; exact hx2 q) (by simp) x hx1 hxi
    | g => exact keep .g (by simp) (by simp)
    | sd => exact keep .sd (by simp) (by simp)
    | lr => exact keep .lr (by simp) (by simp)
    | mv => exact keep .mv (by simp) (by simp)
    | lv j => exact keep (.lv j) (by simp) (by simp)
    | fo j => exact keep (.fo j) (by simp) (by simp)
    | lm j => exact keep (.lm j) (by simp) (by simp)
    | inn j v => exact keep (.inn j v) (by simp) (by simp)
  · rw [hO'] at e
    have e : (if b = s.blk d.id then none else O b) = some t := e
    split at e
    · cases e
    · exact Nat.lt_of_lt_of_le (h.dom b t e) k.size
  · rw [hO'] at e
    have e : (if b = s.blk d.id then none else O b) ≠ none := e
    split at e
    · exact absurd rfl e
    · exact .inl e
def HS.cutF (s : HS) (id : Int) (m l : Nat) : HS := { s with fe := fun j => if m ≤ j ∧ j ≤ l then noE (s.fe j) id else s.fe j }
theorem DelE_l1 {K2 : World → Prop} {id : Int} {l : Nat} (hid : ¬ badI id) (hL : s.L ≤ LB) (hl : l < s.L) (hin : ∀ j, j ≤ l → id ∈ (s.fe j).map E.id) (hK : ∀ w, At O0 w0 w (s.cutF id 0 l) → K2 w) : ∀ (m : Nat) (w : World), m ≤ l + 1 → At O0 w0 w (s.cutF id m l) →
    f_hdt_Graph_DelE.l1 (m + 1) ⟨s.G, 0, none⟩ id ((m : Int) - 1) w K2 := by
  have hL' : s.L ≤ 17592186044000 := hL
  intro m
  induction m with
  | zero =>
    intro w hm h
    unfold f_hdt_Graph_DelE.l1
    exact sel_f (by simp) (hK w h)
  | succ m ih =>
    intro w hm h
    unfold f_hdt_Graph_DelE.l1
    have hml : m < (s.cutF id (m + 1) l).L := by show m < s.L; omega
    rw [show ((m + 1 : Nat) : Int) - 1 = (m : Int) by omega]
    refine sel_t (by simp) ((h.at_in (i := m) hml (by show s.L ≤ _; omega)).mono ?_)
    rintro _ wx ⟨rfl, hx⟩
    obtain rfl : w = wx := hx.symm
    refine ⟨_, rfl, optB_some rfl (h.ldF hml ?_)⟩
    obtain ⟨O1, hm1, u1⟩ := h
    refine (hm1.cut hml (W64.id hid).1).mono ?_
    rintro _ w2 ⟨O2, rfl, h2, u2⟩
    refine ⟨_, rfl, ?_⟩
    rw [w64_in (by omega)]
    refine ih w2 (by omega) ⟨O2, ?_, u1.trans u2⟩
    have e : (s.cutF id (m + 1) l).setF m ((s.cutF id (m + 1) l).fv m) (cutEr ((s.cutF id (m + 1) l).fe m) id) ((s.cutF id (m + 1) l).kv m) ((s.cutF id (m + 1) l).ke m) = s.cutF id m l := by
      have f1 : (s.cutF id (m + 1) l).fe m = s.fe m := if_neg (by omega)
      have c0 : cutC (s.fe m) id = 0 := by
        unfold cutC
        rw [if_neg hid, if_neg fun x => x (hin m (by omega))]
      have e1 : cutEr (s.fe m) id = noE (s.fe m) id := by unfold cutEr; rw [if_pos c0]
      rw [f1, e1]
      show ({ s with fv := upN s.fv m (s.fv m), fe := upN (fun j => if m + 1 ≤ j ∧ j ≤ l then noE (s.fe j) id else s.fe j) m (noE (s.fe m) id), kv := upN s.kv m (s.kv m), ke := upN s.ke m (s.ke m) } : HS) = _
      rw [upN_self, upN_self, upN_self]
      have e2 : upN (fun j => if m + 1 ≤ j ∧ j ≤ l then noE (s.fe j) id else s.fe j) m (noE (s.fe m) id) = fun j => if m ≤ j ∧ j ≤ l then noE (s.fe j) id else s.fe j := by
        funext j
        by_cases q : j = m
        · subst q; rw [upN_same]; exact (if_pos ⟨Nat.le_refl _, by omega⟩).symm
        · rw [upN_ne _ _ q]
          show (if m + 1 ≤ j ∧ j ≤ l then _ else _) = if m ≤ j ∧ j ≤ l then _ else _
          by_cases q2 : m + 1 ≤ j ∧ j ≤ l
          · rw [if_pos q2, if_pos ⟨by omega, q2.2⟩]
          · rw [if_neg q2, if_neg fun hh => q2 ⟨by omega, hh.2⟩]
      rw [e2]; rfl
    rw [← e]
    exact h2
structure SI (s : HS) (x : E) (B : Nat) (m : Nat) (t : HS) : Prop where
  rw : Rw s t
  L : t.L ≤ B
  it : NoIt t
  ws : WS t
  core : Core t.ab
  sk : t.ab.sk = s.ab.sk
  sp : Sp t.ab x m
  nc : NC t.ab x m
theorem DelE_l2 {K4 : World → Prop} {d : Ed} {be B : Nat} (hE : HB w0 be (edC d) TDe) (hO : O0 be = none) (hB : B < LB) (hu : d.u ∈ s.vs) (hv : d.v ∈ s.vs)
    (hK : ∀ w t, At O0 w0 w t → Rw s t → t.L ≤ B → NoIt t → WS t → Core t.ab → t.ab.sk = s.ab.sk → (∀ y, Sp t.ab y 0) → K4 w) :
    ∀ (m : Nat) (t : HS) (w : World), m + 1 ≤ B → m ≤ s.L → At O0 w0 w t → SI s d.e B m t →
      f_hdt_Graph_DelE.l2 (m + 1) ⟨s.G, 0, none⟩ (some ⟨be, 0, none⟩) ((m : Int) - 1) w K4 := by
  have hB' : B < 17592186044000 := hB
  intro m
  induction m with
  | zero =>
    intro t w hmB hmL h si
    unfold f_hdt_Graph_DelE.l2
    exact drW_intro (sel_f (by simp) (hK _ t h.drew si.rw si.L si.it si.ws si.core si.sk fun y => si.sp.any))
  | succ m ih =>
    intro t w hmB hmL h si
    unfold f_hdt_Graph_DelE.l2
    refine drW_intro ?_
    have h := h.drew
    obtain ⟨w1, hw1⟩ : ∃ w1, w.drew = w1 := ⟨_, rfl⟩
    rw [hw1] at h ⊢
    have hb := h.keep hE hO
    rw [show ((m + 1 : Nat) : Int) - 1 = (m : Int) by omega]
    refine sel_t (by simp) (optB_some rfl (hb_ldI0 hb rfl (optB_some rfl (hb_ldI (j := 1) hb rfl ?_))))
    have hmt : m < t.L := by have := si.rw.L; omega
    have hrL := si.L
    rw [← si.rw.G]
    have hlt : t.L < LB := by show t.L < 17592186044000; omega
    · refine (replace_ok (x := d.e) h si.ws si.core si.sp si.nc si.it hmt hlt (by rw [si.rw.vs]; exact hu) (by rw [si.rw.vs]; exact hv)).mono ?_
      rintro _ w2 ⟨b, rfl, t2, h2, hq⟩
      refine ⟨_, rfl, ?_⟩
      cases b with
      | true =>
        rw [if_pos rfl] at hq
        refine sel_f rfl (hK w2 t2 h2 (si.rw.trans hq.rw) ?_ hq.it hq.ws hq.core (hq.sk.trans si.sk) hq.sp)
        have := hq.L; omega
      | false =>
        rw [if_neg (by decide)] at hq
        obtain ⟨q1, q2, q3, q4, q5, q6, q7, q8⟩ := hq
        refine sel_t rfl ?_
        rw [w64_in (by omega), si.rw.G]
        exact ih t2 w2 (by omega) (by omega) h2 ⟨si.rw.trans q1, by omega, q3, q4, q5, q6.trans si.sk, q7, q8⟩
theorem DelE_hg (h : HG w O s N) (hN : N + 2 < LB) {id : Int} (hidW : W64 id) : Calls Tryz.prog 23 #[.pointer (some ⟨s.G, 0, none⟩), .int .i64 id] w fun e w' => ∃ O' s', e = .returned (.int .i64 (cutC s.ab.sk id)) ∧ HG w' O' s' (N + 1) ∧ UH O w O' w' ∧ s'.G = s.G ∧ s'.vs = s.vs ∧ s'.ab.sk = cutEr s.ab.sk id := by
  have hN' : N + 2 < 17592186044000 := hN
  have hLL := h.L
  have h0L := h.ws.L0
  have hids := sk_ids s
  apply f_hdt_Graph_DelE.ok
  unfold f_hdt_Graph_DelE.wp
  refine h.hm.ldE ((h.hm.part .me).1.look KTp hidW (zP' w) ?_)
  have same : ∀ {c : Int} {w1 : World}, Below w.heap.size w w1 → cutC s.ab.sk id = c → c ≠ 0 → ∃ O' s', (Ending.returned (.int .i64 c)) = .returned (.int .i64 (cutC s.ab.sk id)) ∧ HG w1 O' s' (N + 1) ∧ UH O w O' w1 ∧ s'.G = s.G ∧ s'.vs = s.vs ∧ s'.ab.sk = cutEr s.ab.sk id := fun {c w1} g hc h0 => by
    have h1 := h.below g
    refine ⟨O, s, by rw [hc], ⟨h1.hm, h1.ws, h1.ni, h1.core, h1.sp, h1.dg, h1.el, by omega⟩, .below g, rfl, rfl, ?_⟩
    unfold cutEr; rw [hc, if_neg h0]
  by_cases q2 : id ∉ s.ab.sk.map E.id
  · have hno : id ∉ s.es.map Ed.id := by rw [← hids]; exact q2
    rw [el_none hno]
    refine ⟨none, rfl, al_new fun w1 b1 e1 z1 hb1 g1 => ?_⟩
    refine (badIdH (hb1.ri [id] rfl) rfl (by simp)).mono ?_
    rintro _ wx ⟨⟨b, rfl, hb⟩, hx⟩
    obtain rfl : w1 = wx := hx.symm
    have hb : b = true ↔ badI id := by rw [hb]; simp
    refine ⟨b, rfl, ?_⟩
    by_cases q1 : badI id
    · exact sel_t (hb.2 q1) (same g1 (by unfold cutC; rw [if_pos q1]) (by decide))
    · exact sel_f (Bool.eq_false_iff.2 fun x => q1 (hb.1 x)) (sel_t rfl (same g1 (by unfold cutC; rw [if_neg q1, if_pos q2]) (by decide)))
  have q2' : id ∈ s.ab.sk.map E.id := Classical.not_not.1 q2
  obtain ⟨d, hd, rfl⟩ : ∃ d ∈ s.es, d.id = id := by rw [hids] at q2'; exact List.mem_map.1 q2'
  have nd : (s.es.map Ed.id).Nodup := h.core.ids
  rw [el_lk nd hd]
  refine ⟨some ⟨s.blk d.id, 0, none⟩, rfl, al_new fun w1 b1 e1 z1 hb1 g1 => ?_⟩
  refine (badIdH (hb1.ri [d.id] rfl) rfl (by simp)).mono ?_
  rintro _ wx ⟨⟨b, rfl, hb⟩, hx⟩
  obtain rfl : w1 = wx := hx.symm
  have hok := h.core.ok d hd
  have hb : ¬ b = true := fun hh => by
    have := hb.1 hh
    simp at this
    exact hok this
  have hc0 : cutC s.ab.sk d.id = 0 := by unfold cutC; rw [if_neg hok, if_neg fun x => x q2']
  have h1 := h.below g1
  have hends := h.core.ends d hd
  refine ⟨b, rfl, sel_f (Bool.eq_false_iff.2 hb) (sel_f rfl (h1.hm.ldE ((h1.hm.part .me).1.del KTp hidW fun w2 gm2 k2 => ⟨rfl, drW_intro ?_⟩)))⟩
  obtain ⟨O2, h2, u2, hO2, hE2⟩ := h1.hm.delE hd nd k2 gm2
  have gd : Below w2.heap.size w2 w2.drew := (Below.refl _ _).drew
  have h2 := h2.below gd
  have hE2 := hE2.below gd
  have u2 : UH O w O2 w2.drew := ((UH.below g1).trans u2).trans (.below gd)
  obtain ⟨w3, hw3⟩ : ∃ w3, w2.drew = w3 := ⟨_, rfl⟩
  rw [hw3] at h2 hE2 u2 ⊢
  obtain ⟨be, hbe⟩ : ∃ be, s.blk d.id = be := ⟨_, rfl⟩
  rw [hbe] at hO2 hE2 ⊢
  have hdb : ∀ y, 0 ≤ deg s.ab.sk y ∧ deg s.ab.sk y ≤ 4096 := fun y => ⟨deg_nn _ _, by
    have h1 := deg_le s.ab.sk y
    have h2 : s.ab.sk.length = s.es.length := List.length_map _
    have h3 := h.el
    omega⟩
  have huW := (W64.id (h.ws.ok hends.1)).1
  have hvW := (W64.id (h.ws.ok hends.2)).1
  refine h2.ldV (optB_some rfl (hb_ldI0 hE2 rfl ?_))
  have vl1 := fun {K} hk => h2.vlUp (K := K) (y := d.u) (z := deg s.ab.sk d.u) (by_ := -1) (f := fun x => IntKind.i64.wrap (x - 1)) huW (h.dg d.u hends.1) (by have := hdb d.u; omega) (.inr rfl) hk rfl
  refine vl1 fun w4 O4 h4 u4 k4 => drW_intro ?_
  have gd4 : Below w4.heap.size w4 w4.drew := (Below.refl _ _).drew
  have hbm : be ≠ s.mv := fun e => by
    have := (h2.part .mv).2
    rw [e] at hO2
    have this : O2 s.mv = some .mv := this
    rw [hO2] at this; cases this
  have h4 := h4.below gd4
  have hE4 := (hE2.keeps k4 hbm).below gd4
  have u4 : UH O2 w3 O4 w4.drew := u4.trans (.below gd4)
  obtain ⟨w5, hw5⟩ : ∃ w5, w4.drew = w5 := ⟨_, rfl⟩
  rw [hw5] at h4 hE4 u4 ⊢
  have ev := end_v (l := s.vl) (es := s.ab.sk) (e := d.e) (by_ := -1) (h.dg d.v hends.2)
  refine h4.ldV (optB_some rfl (hb_ldI (j := 1) hE4 rfl ?_))
  have vl2 := fun {K} hk => h4.vlUp (K := K) (y := d.v) (z := deg s.ab.sk d.v + if d.u = d.v then -1 else 0) (by_ := -1) (f := fun x => IntKind.i64.wrap (x - 1)) hvW ev (by have := hdb d.v; split <;> omega) (.inr rfl) hk rfl
  refine vl2 fun w6 O6 h6 u6 k6 => drW_intro ?_
  have gd6 : Below w6.heap.size w6 w6.drew := (Below.refl _ _).drew
  have h6 := h6.below gd6
  have hE6 := (hE4.keeps k6 hbm).below gd6
  have u6 : UH O4 w5 O6 w6.drew := u6.trans (.below gd6)
  obtain ⟨w7, hw7⟩ : ∃ w7, w6.drew = w7 := ⟨_, rfl⟩
  rw [hw7] at h6 hE6 u6 ⊢
  have hOn : ∀ {O' : Ow} {w w' : World}, UH O2 w O' w' → be < w.heap.size → O' be = none := fun {O' w w'} u hlt => by
    apply Classical.byContradiction
    intro hh
    rcases u.fr be hh with q | q
    · exact q hO2
    · omega
  have hO6 : O6 be = none := hOn (u4.trans u6) hE2.lt
  obtain ⟨s2, hs2⟩ : ∃ s2 : HS, ({ s with es := noD s.es d.id, vl := endL s.vl s.ab.sk d.e (-1) } : HS) = s2 := ⟨_, rfl⟩
  have h6 : HM w7 O6 s2 := by rw [← hs2]; exact h6
  have u06 : UH O w O6 w7 := (u2.trans u4).trans u6
  have h7 : At O6 w7 w7 s2 := h6.at
  have G2 : s2.G = s.G := by rw [← hs2]
  have L2 : s2.L = s.L := by rw [← hs2]
  have vs2 : s2.vs = s.vs := by rw [← hs2]
  have vl2 : s2.vl = endL s.vl s.ab.sk d.e (-1) := by rw [← hs2]
  have ab2 : s2.ab = { s.ab with es := noD s.es d.id } := by rw [← hs2]; rfl
  have ws2 : WS s2 := by
    have := (endL_ok h.ws h.nd h.dg (e := d.e) hends.1 hends.2 (by_ := -1) (.inr rfl)).1
    rw [← hs2]
    exact ⟨this.fv, this.vss, this.vk, this.vr, this.vlen, this.L0⟩
  have ni2 : NoIt s2 := fun k y => by rw [← hs2]; exact h.ni k y
  have esk : ∀ t : HS, t.ab.sk = noE s.ab.sk d.id → t.ab.sk = cutEr s.ab.sk d.id := fun t e => by unfold cutEr; rw [if_pos hc0]; exact e
  have skD : ∀ t : HS, t.ab.es = noD s.ab.es d.id → t.ab.sk = noE s.ab.sk d.id := fun t e => by
    unfold Ab.sk
    rw [e]; exact noD_sk _ _
  have hends2 : d.u ∈ s2.vs ∧ d.v ∈ s2.vs := by rw [vs2]; exact hends
  have fin : ∀ (w' : World) (t : HS), At O6 w7 w' t → Rw s2 t → t.L ≤ N + 2 → NoIt t → WS t → Core t.ab → Sp t.ab zE 0 → t.ab.sk = noE s.ab.sk d.id → ∃ O' s', (Ending.returned (.int .i64 0)) = .returned (.int .i64 (cutC s.ab.sk d.id)) ∧ HG w' O' s' (N + 1) ∧ UH O w O' w' ∧ s'.G = s2.G ∧ s'.vs = s.vs ∧ s'.ab.sk = cutEr s.ab.sk d.id := by
    rintro w' t ⟨O', hm', u'⟩ r hL hni hws hc hsp hsk
    refine ⟨O', t, by rw [hc0], ⟨hm', hws, hni, hc, hsp, fun y hy => ?_, ?_, hL⟩, u06.trans u', r.G, r.vs.trans vs2, esk t hsk⟩
    · rw [r.vs, vs2] at hy
      have hdn := deg_noE (es := s.ab.sk) (e := d.e) y (by rw [hids]; exact nd) (sk_mem.2 ⟨d, hd, rfl⟩)
      rw [r.vl, vl2, (endL_ok h.ws h.nd h.dg (e := d.e) hends.1 hends.2 (by_ := -1) (.inr rfl)).2 y hy, hsk]
      have hdn : deg s.ab.sk y = deg (noE s.ab.sk d.id) y + d1 d.e y := hdn
      congr 1; omega
    · have e1 : t.ab.sk.length = t.es.length := List.length_map _
      have e2 : s.ab.sk.length = s.es.length := List.length_map _
      have e3 : (noE s.ab.sk d.id).length ≤ s.ab.sk.length := List.length_filter_le _ _
      have := h.el
      rw [← e1, hsk]; omega
  rw [← G2]
  refine optB_some rfl (hb_ldI0 hE6 rfl (optB_some rfl (hb_ldI (j := 1) hE6 rfl ?_)))
  have kvS : ∀ k, ∀ y ∈ s.ab.vs, (s.ab.kv k y = true ↔ s.ab.lo k y ≠ []) := h.core.kv
  by_cases q6 : d.u = d.v
  · have ht : d.tr = false := by
      cases hq : d.tr with
      | false => rfl
      | true => exact absurd q6 (h.core.tl d hd hq)
    have la : LoseA s.ab d s2.ab := by
      rw [ab2]
      exact ⟨rfl, rfl, rfl, fun k v id => by rw [if_neg fun hh => hh.2.2 q6], kvS, rfl⟩
    exact sel_t (by simpa using q6) (fin w7 s2 h7 (.refl _) (by omega) ni2 ws2 (la.core h.core hd ht) (la.sp h.sp) (skD s2 la.es))
  refine sel_f (by simpa using q6) (optB_some rfl ⟨d.tr, (hE6.cell 3).trans rfl, ?_⟩)
  have hlv : d.lv < s.L := lv_lt h.core hd q6
  have hlv2 : d.lv < s2.L := by rw [L2]; exact hlv
  cases ht : d.tr with
  | false =>
    refine sel_t rfl (optB_some rfl (hb_ldI (j := 2) hE6 rfl ((h7.at_in hlv2 (by omega)).mono ?_)))
    rintro _ wx ⟨rfl, hx⟩
    obtain rfl : w7 = wx := hx.symm
    refine ⟨_, rfl, (h7.hang ws2 hlv2 (d := d) hE6 q6 hok hends2.1 hends2.2 false (fun y _ r l c e => by rw [ni2 d.lv y] at e; cases e)).mono ?_⟩
    rintro _ w8 ⟨rfl, s3, h8, r3, t3, L3, g3⟩
    refine ⟨rfl, ?_⟩
    have g := g3
    rw [ab2] at g
    have la : LoseA s.ab d s3.ab := by
      refine ⟨g.vs, g.es, g.fe, fun k y id' => ?_, fun k y hy => g.kvA kvS k y (by rw [g.vs]; exact hy), g.ke⟩
      have q := g.lo k y id'
      rw [if_neg (c := false = true) (by decide)] at q
      rw [q]
      by_cases p : k = d.lv ∧ d.at y
      · rw [if_pos p, if_pos ⟨p.2, p.1, q6⟩]
      · rw [if_neg p, if_neg fun hh => p ⟨hh.2.1, hh.1⟩]
    exact fin w8 s3 h8 r3 (by omega) (fun k y => t3.n k y (ni2 k y)) (r3.ws ws2) (la.core h.core hd ht) (la.sp h.sp) (skD s3 la.es)
  | true =>
    refine sel_f rfl (optB_some rfl (hb_ldI (j := 2) hE6 rfl ?_))
    have inF : ∀ j, j ≤ d.lv → d.e ∈ s.ab.fe j := fun j hj => (h.core.fe j _).2 ⟨d, hd, ht, hj, rfl⟩
    have fe2 : ∀ j, j < s.L → s2.fe j = s.ab.fe j := fun j hj => by rw [← HS.ab_fe (by rw [L2]; exact hj), ab2]
    have e0 : s2.cutF d.id (d.lv + 1) d.lv = s2 := by
      unfold HS.cutF
      have : (fun j => if d.lv + 1 ≤ j ∧ j ≤ d.lv then noE (s2.fe j) d.id else s2.fe j) = s2.fe := by funext j; exact if_neg (by omega)
      rw [this]
    refine ⟨d.lv + 1 + 1, ?_⟩
    rw [show (d.lv : Int) = ((d.lv + 1 : Nat) : Int) - 1 by omega]
    refine DelE_l1 (s := s2) (O0 := O6) (w0 := w7) (l := d.lv) hok (by show s2.L ≤ 17592186044000; omega) hlv2 (fun j hj => List.mem_map.2 ⟨d.e, by rw [fe2 j (by omega)]; exact inF j hj, rfl⟩) ?_ (d.lv + 1) w7 (Nat.le_refl _) (by rw [e0]; exact h7)
    intro w8 h8 _ _
    obtain ⟨s3, hs3⟩ : ∃ s3, s2.cutF d.id 0 d.lv = s3 := ⟨_, rfl⟩
    have r3 : Rw s2 s3 := by
      rw [← hs3]
      exact ⟨rfl, rfl, rfl, rfl, rfl, rfl, Nat.le_refl _, fun _ _ => rfl, fun ws => ⟨ws.fv, ws.vss, ws.vk, ws.vr, ws.vlen, ws.L0⟩⟩
    have L3 : s3.L = s2.L := by rw [← hs3]; rfl
    have ni3 : NoIt s3 := fun k y => by rw [← hs3]; exact ni2 k y
    have fe3 : ∀ k, s3.ab.fe k = if k ≤ d.lv then noE (s.ab.fe k) d.id else s.ab.fe k := fun k => by
      have e : s3.ab.fe k = if k < s2.L then (if 0 ≤ k ∧ k ≤ d.lv then noE (s2.fe k) d.id else s2.fe k) else [] := by rw [← hs3]; rfl
      rw [e]
      by_cases q : k < s.L
      · rw [if_pos (by rw [L2]; exact q), fe2 k q]
        by_cases q2 : k ≤ d.lv
        · rw [if_pos ⟨Nat.zero_le _, q2⟩, if_pos q2]
        · rw [if_neg fun hh => q2 hh.2, if_neg q2]
      · rw [if_neg (by rw [L2]; exact q), if_neg (by omega)]
        exact (if_neg q).symm
    have ca : CutA s.ab d s3.ab := by
      refine ⟨?_, ?_, fun k hk e => by rw [fe3, if_pos hk], fun k hk e => by rw [fe3, if_neg (by omega)], ?_, ?_, ?_⟩
      · have : s3.ab.vs = s2.ab.vs := by rw [← hs3]; rfl
        rw [this, ab2]
      · have : s3.ab.es = s2.ab.es := by rw [← hs3]; rfl
        rw [this, ab2]; rfl
      · have : s3.ab.lo = s2.ab.lo := by rw [← hs3]; rfl
        rw [this, ab2]
      · have : s3.ab.kv = s2.ab.kv := by rw [← hs3]; rfl
        rw [this, ab2]
      · have : s3.ab.ke = s2.ab.ke := by rw [← hs3]; rfl
        rw [this, ab2]
    rw [hs3] at h8
    have hE8 := h8.keep hE6 hO6
    refine optB_some rfl (hb_ldI (j := 2) hE8 rfl ⟨d.lv + 1 + 1, ?_⟩)
    rw [show (d.lv : Int) = ((d.lv + 1 : Nat) : Int) - 1 by omega, ← r3.G]
    have vs3 : s3.vs = s.vs := r3.vs.trans vs2
    refine DelE_l2 (s := s3) (O0 := O6) (w0 := w7) (d := d) (B := s.L + 1) hE6 hO6 (by show s.L + 1 < 17592186044000; omega) (by rw [vs3]; exact hends.1) (by rw [vs3]; exact hends.2) ?_ (d.lv + 1) s3 w8 (by omega) (by omega) h8 ⟨.refl _, by omega, ni3, r3.ws ws2, ca.core h.core hd ht, rfl, ca.sp h.core hd h.sp, ca.nc h.core hd ht⟩
    intro w9 t h9 r9 L9 n9 ws9 c9 sk9 sp9 _
    rw [r3.G]
    exact fin w9 t h9 (r3.trans r9) (by omega) n9 ws9 c9 (sp9 zE) (sk9.trans (skD s3 ca.es))
end
section
variable {w w' w0 : World} {O O' O0 : Ow} {s s' s0 : HS} {i N : Nat} {v : Int} {x : E} {u : Int}
theorem Clone_ok {A : Option Addr} {sl : List Int} {n c : Nat} (hr : RI w A sl) (hn : n = sl.length) (hc0 : A = none → sl.length = 0 ∧ c = 0) (hlen : sl.length ≤ 17592186044416) :
    Calls Tryz.prog 31 #[.slice A n c] w fun e w' => ∃ A' c', e = .returned (.slice A' sl.length c') ∧ OwnI w' w.heap.size TI A' c' sl ∧ (A' = none → sl.length = 0 ∧ c' = 0) ∧ Below w.heap.size w w' := by
  subst hn
  apply f_slices_Clone_int_int.ok
  unfold f_slices_Clone_int_int.wp
  cases A with
  | none =>
    obtain ⟨h0, _⟩ := hc0 rfl
    have : sl = [] := List.length_eq_zero_iff.1 h0
    subst this
    exact sel_t rfl ⟨none, 0, rfl, OwnI.none _ _ _, fun _ => ⟨rfl, rfl⟩, Below.refl _ _⟩
  | some a =>
    refine sel_f rfl (al_new fun w1 b e1 z1 h1 g1 => ?_)
    refine app_empty TIn (B := w.heap.size) h1 (by omega) (hr.below g1 (Nat.le_refl _)) rfl (fun h => by cases h) hlen fun A' c' w2 o2 b2 => ⟨_, _, _, rfl, some A', c', rfl, o2, (fun h => by cases h), g1.trans (b2.mono g1.size)⟩
theorem New_hg {A : Option Addr} {sl : List Int} {n c : Nat} (hr : RI w A sl) (hn : n = sl.length) (hc0 : A = none → sl.length = 0 ∧ c = 0) (hlen : sl.length ≤ 17592186044416) :
    Calls Tryz.prog 8 #[.slice A n c] w fun e w' => ∃ O s, e = .returned (.pointer (some ⟨s.G, 0, none⟩)) ∧ HG w' O s 0 ∧ s.vs = [] ∧ s.ab.sk = [] ∧ (∀ k, O k ≠ none → w.heap.size ≤ k) ∧ Below w.heap.size w w' := by
  apply f_hdt_New.ok
  unfold f_hdt_New.wp
  refine (Clone_ok hr hn hc0 hlen).mono ?_
  rintro _ w1 ⟨sA, sc, rfl, o1, on, g1⟩
  refine ⟨_, _, _, rfl, ?_⟩
  have am : ∀ {w : World} {K : Nat → World → Prop}, (∀ w' b, b = w.heap.size → w'.heap.size = b + 1 → w' = w.alloc (.map #[] 0) → Below w.heap.size w w' → K b w') → alW w (.map #[] 0) K :=
    fun {w K} h => h _ _ rfl (by simp) rfl ((Below.refl _ _).alloc (Nat.le_refl _) _)
  refine am fun w2 mv ev zv qv gv => am fun w3 me ee ze qe ge => al_new fun w4 G eG zG hG gG => ?_
  have gm1 : GM w2 eI eI W64 mv [] := by rw [qv, ev]; exact GM.new w1
  have gm2 : GM w3 eI ePt W64 me [] := by rw [qe, ee]; exact GM.new w2
  have gm1 := (gm1.keeps (S := fun _ => False) (.of_below ge) id).keeps (S := fun _ => False) (.of_below gG) id
  have gm2 := gm2.keeps (S := fun _ => False) (.of_below gG) id
  have s1 := g1.size
  have gw : Below w.heap.size w w4 := (g1.trans (gv.mono s1)).trans ((ge.mono (by omega)).trans (gG.mono (by omega)))
  have ob := o1.block
  have hri : RI w4 sA sl := (((o1.reads).below gv (Nat.le_refl _)).below ge (Nat.le_refl _)).below gG (Nat.le_refl _)
  obtain ⟨s0, hs0⟩ : ∃ s0 : HS, s0 = { G := G, sA := sA, sc := sc, sd := sl, lA := none, lc := 0, L := 0, lb := fun _ => 0, F := fun _ => 0, lm := fun _ => 0, ll := fun _ => [], inn := fun _ _ => [], it := fun _ _ => none, mv := mv, me := me, vl := [], blk := fun _ => 0, fv := fun _ => [], vs := [], es := [], fe := fun _ => [], kv := fun _ _ => false, ke := fun _ _ => false } := ⟨_, rfl⟩
  obtain ⟨O, hO⟩ : ∃ O : Ow, O = fun k => if k = G then some .g else if k = mv then some .mv else if k = me then some .me else if sA.map Addr.block = some k then some .sd else none := ⟨_, rfl⟩
  have oG : O G = some .g := by rw [hO]; exact if_pos rfl
  have oM : O mv = some .mv := by
    rw [hO]
    show (if mv = G then _ else if mv = mv then _ else _) = _
    rw [if_neg (by omega), if_pos rfl]
  have oE : O me = some .me := by
    rw [hO]
    show (if me = G then _ else if me = mv then _ else if me = me then _ else _) = _
    rw [if_neg (by omega), if_neg (by omega), if_pos rfl]
  have oS : ∀ a, sA = some a → O a.block = some .sd := fun a ha => by
    have := (ob a ha).2
    rw [hO]
    show (if a.block = G then _ else if a.block = mv then _ else if a.block = me then _ else if sA.map Addr.block = some a.block then _ else _) = _
    rw [if_neg (by omega), if_neg (by omega), if_neg (by omega), if_pos (by rw [ha]; rfl)]
  have oR : ∀ k, O k ≠ none → w.heap.size ≤ k ∧ k < w4.heap.size := fun k hk => by
    rw [hO] at hk
    have hk : (if k = G then some Tg.g else if k = mv then some .mv else if k = me then some .me else if sA.map Addr.block = some k then some .sd else none) ≠ none := hk
    split at hk
    · omega
    split at hk
    · omega
    split at hk
    · omega
    split at hk
    · rename_i q
      cases sA with
      | none => cases q
      | some a =>
        have q : some a.block = some k := q
        injection q with q
        have := ob a rfl
        omega
    · exact absurd rfl hk
  have hm : HM w4 O s0 := by
    refine ⟨fun t => ?_, fun k t e => (oR k (by rw [e]; simp)).2⟩
    rw [hs0]
    cases t with
    | g => exact ⟨hG, oG⟩
    | sd => exact ⟨hri, fun a ha _ => oS a ha, hlen, on⟩
    | lr => exact ⟨OwnW.none _ _ _, fun a ha => by cases ha⟩
    | mv => exact ⟨gm1, oM⟩
    | me => exact ⟨gm2, oE⟩
    | lv j => exact fun h => absurd h (Nat.not_lt_zero _)
    | fo j => exact fun h => absurd h (Nat.not_lt_zero _)
    | lm j => exact fun h => absurd h (Nat.not_lt_zero _)
    | inn j v => exact fun h => absurd h (Nat.not_lt_zero _)
    | ed id => exact fun d hd => by cases hd
  have hat := at_new hm (by rw [hs0]; exact List.Pairwise.nil) (fun v => by rw [hs0]; simp [lk]) (fun p hp => by rw [hs0] at hp; cases hp) (by rw [hs0]; exact Nat.zero_le _) (by rw [hs0]; exact Nat.zero_le _)
  have eG0 : s0.G = G := by rw [hs0]
  have eL0 : s0.L = 0 := by rw [hs0]
  rw [eG0, eL0] at hat
  refine hat.mono ?_
  rintro _ w5 ⟨O', b, F, m, A', c', rfl, hm', u'⟩
  refine ⟨_, rfl, O', s0.newL b F m A' c', ?_, ?_, ?_, ?_, fun k hk => ?_, ?_⟩
  · show _ = Ending.returned (.pointer (some ⟨s0.G, 0, none⟩))
    rw [eG0]
  · have eab : (s0.newL b F m A' c').ab = s0.ab := HS.newL_ab _ _ _ _ _ _
    have e1 : s0.ab.es = [] := by rw [hs0]; rfl
    have e2 : ∀ k, s0.ab.fe k = [] := fun k => by rw [hs0]; show (if k < 0 then ([] : List E) else []) = []; split <;> rfl
    have e3 : ∀ k y, s0.ab.lo k y = [] := fun k y => by rw [hs0]; show (if k < 0 then loF (fun _ => []) (fun _ _ => []) k y else ([] : List Int)) = []; exact if_neg (Nat.not_lt_zero _)
    have e4 : s0.ab.vs = [] := by rw [hs0]; rfl
    refine ⟨hm', ⟨fun j hj => ?_, ?_, fun y => ?_, ?_, ?_, Nat.succ_pos _⟩, fun k y => ?_, ?_, ?_, ?_, ?_, ?_⟩
    · have hj : j < s0.L + 1 := hj
      rw [eL0] at hj
      obtain rfl : j = 0 := by omega
      show upN s0.fv s0.L s0.vs 0 = s0.vs
      rw [eL0, upN_same]
    · show s0.vs.Pairwise (· < ·)
      rw [hs0]; exact List.Pairwise.nil
    · show y ∈ s0.vs ↔ (lk s0.vl y).isSome = true
      rw [hs0]; simp [lk]
    · show ∀ p ∈ s0.vl, ¬ badI p.1
      rw [hs0]; intro p hp; cases hp
    · show s0.vl.length ≤ 2048
      rw [hs0]; exact Nat.zero_le _
    · show s0.it k y = none
      rw [hs0]
    · rw [eab]
      have none' : ∀ {d : Ed}, d ∉ s0.ab.es := fun {d} hd => by rw [e1] at hd; cases hd
      refine ⟨by rw [e1]; exact List.nodup_nil, fun d hd => absurd hd none', fun d hd => absurd hd none', fun d hd => absurd hd none', fun k e => ?_, fun e he => ?_, fun k y id => ?_, fun k y hy => ?_, fun k d hd => absurd hd none'⟩
      · rw [e2, e1]; simp
      · rw [e2] at he; cases he
      · rw [e3, e1]; simp
      · rw [e4] at hy; cases hy
    · rw [eab]
      intro d hd
      rw [e1] at hd; cases hd
    · intro y hy
      have hy : y ∈ s0.vs := hy
      rw [hs0] at hy; cases hy
    · show s0.es.length ≤ 2048
      rw [hs0]; exact Nat.zero_le _
    · show s0.L + 1 ≤ 0 + 1
      omega
  · show s0.vs = []
    rw [hs0]
  · rw [HS.newL_ab, hs0]; rfl
  · rcases u'.fr k hk with q | q
    · exact (oR k q).1
    · have := gw.size; omega
  · exact gw.trans (u'.kp.below gw.size fun k hk hh => by have := (oR k hh).1; omega)
theorem Len_hg (h : HG w O s N) : Calls Tryz.prog 11 #[.pointer (some ⟨s.G, 0, none⟩)] w fun e w' => e = .returned (.tuple #[.int .i64 (s.vs.length : Int), .int .i64 (s.ab.sk.length : Int)]) ∧ HG w' O s N ∧ Below w.heap.size w w' := by
  apply f_hdt_Graph_Len.ok
  unfold f_hdt_Graph_Len.wp
  refine drW_intro ?_
  have gd : Below w.heap.size w w.drew := (Below.refl _ _).drew
  have h1 := h.below gd
  have hG := (h1.hm.part .g).1
  refine ⟨fun a => HB a s.G (gC s) TG, hG, some s.mv, fun a ha => (ha.cell 2).trans rfl, some s.me, fun a ha => (ha.cell 3).trans rfl, ?_⟩
  refine (h1.hm.part .mv).1.len KTv ⟨_, rfl, hG, (h1.hm.part .me).1.len KTp ⟨_, rfl, ?_, h1, gd⟩⟩
  have e1 : s.el.length = s.ab.sk.length := by
    unfold HS.el Ab.sk
    rw [List.length_map, List.length_map]; rfl
  rw [h.vlen, e1]
theorem HG.fe (h : HG w O s N) : s.fe 0 = s.ab.fe 0 := (HS.ab_fe h.ws.L0).symm
theorem HG.cn (h : HG w O s N) {u v : Int} : Cn (s.fe 0) u v ↔ Cn s.ab.sk u v := by rw [h.fe]; exact h.core.joined h.sp
theorem HG.cmp (h : HG w O s N) (u : Int) : cmpV s.vs (s.fe 0) u = cmpV s.vs s.ab.sk u := by
  unfold cmpV
  exact List.filter_congr fun y _ => by rw [decide_eq_decide]; exact h.cn
open Classical in
theorem Joined_hg (h : HG w O s N) (hN : N < LB) {u v : Int} (hu : W64 u) (hv : W64 v) : Calls Tryz.prog 16 #[.pointer (some ⟨s.G, 0, none⟩), .int .i64 u, .int .i64 v] w fun e w' => e = .returned (.tuple #[.bool (decide (u ∈ s.vs ∧ v ∈ s.vs ∧ Cn s.ab.sk u v)), .int .i64 (if u ∈ s.vs ∧ v ∈ s.vs then 0 else 51)]) ∧ HG w' O s N ∧ Below w.heap.size w w' := by
  have hN' : N < 17592186044000 := hN
  have hLL := h.L
  apply f_hdt_Graph_Joined.ok
  unfold f_hdt_Graph_Joined.wp
  refine (h.hm.at.at_in (i := 0) h.ws.L0 (by omega)).mono ?_
  rintro _ wx ⟨rfl, hx⟩
  obtain rfl : w = wx := hx.symm
  refine ⟨_, rfl, optB_some rfl (h.hm.ldF h.ws.L0 ((h.hm.fjoined h.ws.L0 hu hv).mono ?_))⟩
  rintro _ w2 ⟨rfl, _, g⟩
  refine ⟨_, _, rfl, ?_, h.below g, g⟩
  rw [h.ws.fv 0 h.ws.L0]
  have e : decide (u ∈ s.vs ∧ v ∈ s.vs ∧ Cn (s.fe 0) u v) = decide (u ∈ s.vs ∧ v ∈ s.vs ∧ Cn s.ab.sk u v) := by
    rw [decide_eq_decide, h.cn]
  rw [e]
theorem Size_hg (h : HG w O s N) (hN : N < LB) {u : Int} (hu : W64 u) : Calls Tryz.prog 29 #[.pointer (some ⟨s.G, 0, none⟩), .int .i64 u] w fun e w' => e = .returned (.tuple #[.int .i64 (if u ∈ s.vs then ((cmpV s.vs s.ab.sk u).length : Int) else 0), .int .i64 (if u ∈ s.vs then 0 else 51)]) ∧ HG w' O s N ∧ Below w.heap.size w w' := by
  have hN' : N < 17592186044000 := hN
  have hLL := h.L
  apply f_hdt_Graph_Size.ok
  unfold f_hdt_Graph_Size.wp
  refine (h.hm.at.at_in (i := 0) h.ws.L0 (by omega)).mono ?_
  rintro _ wx ⟨rfl, hx⟩
  obtain rfl : w = wx := hx.symm
  refine ⟨_, rfl, optB_some rfl (h.hm.ldF h.ws.L0 ((h.hm.fsize h.ws.L0 hu).mono ?_))⟩
  rintro _ w2 ⟨rfl, _, g⟩
  refine ⟨_, _, rfl, ?_, h.below g, g⟩
  rw [h.ws.fv 0 h.ws.L0, h.cmp]
theorem Verts_hg (h : HG w O s N) (hN : N < LB) {u : Int} (hu : W64 u) : Calls Tryz.prog 17 #[.pointer (some ⟨s.G, 0, none⟩), .int .i64 u] w fun e w' => ∃ A c out, e = .returned (.tuple #[.slice A out.length c, .int .i64 (if u ∈ s.vs then 0 else 51)]) ∧ OwnI w' w.heap.size TI A c out ∧ out = (if u ∈ s.vs then cmpV s.vs s.ab.sk u else []) ∧ HG w' O s N ∧ Below w.heap.size w w' := by
  have hN' : N < 17592186044000 := hN
  have hLL := h.L
  apply f_hdt_Graph_Verts.ok
  unfold f_hdt_Graph_Verts.wp
  refine (h.hm.at.at_in (i := 0) h.ws.L0 (by omega)).mono ?_
  rintro _ wx ⟨rfl, hx⟩
  obtain rfl : w = wx := hx.symm
  refine ⟨_, rfl, optB_some rfl (h.hm.ldF h.ws.L0 ((h.hm.fverts h.ws.L0 hu).mono ?_))⟩
  rintro _ w2 ⟨A, c, out, rfl, o, ho, _, g⟩
  rw [h.ws.fv 0 h.ws.L0] at ho ⊢
  rw [h.cmp] at ho
  exact ⟨_, _, _, _, rfl, A, c, out, rfl, o, ho, h.below g, g⟩
end
open Classical in
noncomputable def reps (vs : List Int) (es : List E) : List Int := vs.filter fun v => decide (∀ u ∈ vs, Cn es u v → v ≤ u)
theorem reps_mem {vs : List Int} {es : List E} {v : Int} : v ∈ reps vs es ↔ v ∈ vs ∧ ∀ u ∈ vs, Cn es u v → v ≤ u := by simp [reps]
theorem reps_same {vs : List Int} {a b : List E} (h : ∀ u v, Cn a u v ↔ Cn b u v) : reps vs a = reps vs b := by
  unfold reps
  exact List.filter_congr fun v _ => by rw [decide_eq_decide]; simp only [h]
theorem rep_ex {vs : List Int} (hs : vs.Pairwise (· < ·)) (es : List E) {x : Int} (hx : x ∈ vs) : ∃ r ∈ reps vs es, Cn es x r := by
  have hm : x ∈ cmpV vs es x := cmpV_mem.2 ⟨hx, Cn.refl _ _⟩
  have hp := cmpV_sorted hs es x
  cases hc : cmpV vs es x with
  | nil => rw [hc] at hm; cases hm
  | cons r t =>
    rw [hc] at hp
    have hr : r ∈ cmpV vs es x := by rw [hc]; exact List.mem_cons_self
    obtain ⟨h1, h2⟩ := cmpV_mem.1 hr
    refine ⟨r, reps_mem.2 ⟨h1, fun u hu hc2 => ?_⟩, h2⟩
    have hu2 : u ∈ cmpV vs es x := cmpV_mem.2 ⟨hu, h2.trans hc2.symm⟩
    rw [hc] at hu2
    rcases List.mem_cons.1 hu2 with rfl | q
    · exact Int.le_refl _
    · have := (List.pairwise_cons.1 hp).1 u q
      omega
theorem rep_uniq {vs : List Int} {es : List E} {a b : Int} (ha : a ∈ reps vs es) (hb : b ∈ reps vs es) (h : Cn es a b) : a = b := by
  obtain ⟨a1, a2⟩ := reps_mem.1 ha
  obtain ⟨b1, b2⟩ := reps_mem.1 hb
  have h1 := b2 a a1 h
  have h2 := a2 b b1 h.symm
  omega
theorem filter_ne_len {l : List Int} (nd : l.Nodup) {x : Int} (hx : x ∈ l) : (l.filter fun y => !decide (y = x)).length + 1 = l.length := by
  have h := woI_len nd hx
  have e : (l.filter fun y => !decide (y = x)) = woI l x := by
    unfold woI
    refine List.filter_congr fun y _ => ?_
    by_cases q : y = x <;> simp [q]
  rw [e]; exact h
theorem reps_snoc {vs : List Int} (hs : vs.Pairwise (· < ·)) {es : List E} {e : E} (he : e.u ∈ vs ∧ e.v ∈ vs) (hc : ¬ Cn es e.u e.v) : (reps vs (es ++ [e])).length + 1 = (reps vs es).length := by
  obtain ⟨a, ha, hua⟩ := rep_ex hs es he.1
  obtain ⟨b, hb, hvb⟩ := rep_ex hs es he.2
  have hab : a ≠ b := fun q => hc (hua.trans (q ▸ hvb.symm))
  have nd : (reps vs es).Nodup := (sorted_nodup hs).sublist List.filter_sublist
  have new : Cn (es ++ [e]) e.u e.v := Cn.edge (List.mem_append_right _ (List.mem_singleton.2 rfl))
  have up : ∀ {x y}, Cn es x y → Cn (es ++ [e]) x y := fun h => h.mono fun z hz => List.mem_append_left _ hz
  have hnew : Cn (es ++ [e]) a b := ((up hua).symm.trans new).trans (up hvb)
  obtain ⟨a1, a2⟩ := reps_mem.1 ha
  obtain ⟨b1, b2⟩ := reps_mem.1 hb
  have key : ∀ (m g : Int), m < g → m ∈ reps vs es → g ∈ reps vs es → Cn (es ++ [e]) m g → (∀ u v, v ∈ reps vs es → v ≠ g → u ∈ vs → Cn (es ++ [e]) u v → Cn es u v ∨ (Cn es u g ∧ v = m)) → (reps vs (es ++ [e])).length + 1 = (reps vs es).length := by
    intro m g hlt hm hg hmg hcase
    have hgv := reps_mem.1 hg
    have e1 : reps vs (es ++ [e]) = (reps vs es).filter fun y => !decide (y = g) := by
      unfold reps
      rw [List.filter_filter]
      refine List.filter_congr fun v hv => ?_
      rw [Bool.eq_iff_iff]
      simp only [decide_eq_true_eq, Bool.and_eq_true, Bool.not_eq_true', decide_eq_false_iff_not]
      constructor
      · intro h
        refine ⟨fun q => ?_, fun u hu hcu => h u hu (up hcu)⟩
        have := h m (reps_mem.1 hm).1 (q ▸ hmg)
        omega
      · rintro ⟨hne, h⟩ u hu hcu
        rcases hcase u v (reps_mem.2 ⟨hv, h⟩) hne hu hcu with q | ⟨q1, rfl⟩
        · exact h u hu q
        · have := hgv.2 u hu q1
          omega
    rw [e1]
    exact filter_ne_len nd hg
  by_cases hlt : a < b
  · refine key a b hlt ha hb hnew fun u v hv hne hu hcu => ?_
    rcases cn_add.1 hcu with q | ⟨q1, q2⟩ | ⟨q1, q2⟩
    · exact .inl q
    · exact absurd (rep_uniq hv hb (q2.symm.trans hvb)) hne
    · exact .inr ⟨q1.trans hvb, rep_uniq hv ha (q2.symm.trans hua)⟩
  · refine key b a (by omega) hb ha hnew.symm fun u v hv hne hu hcu => ?_
    rcases cn_add.1 hcu with q | ⟨q1, q2⟩ | ⟨q1, q2⟩
    · exact .inl q
    · exact .inr ⟨q1.trans hua, rep_uniq hv hb (q2.symm.trans hvb)⟩
    · exact absurd (rep_uniq hv ha (q2.symm.trans hua)) hne
open Classical in
theorem reps_nil {vs : List Int} : reps vs [] = vs := by
  unfold reps
  refine List.filter_eq_self.2 fun v hv => ?_
  refine decide_eq_true ?_
  intro u hu h
  have : u = v := by
    obtain ⟨p, h⟩ := h
    cases h with
    | nil => rfl
    | cons he _ _ => cases he
  omega
theorem reps_forest {vs : List Int} (hs : vs.Pairwise (· < ·)) : ∀ (r : List E), Ac r.reverse → (r.reverse.map E.id).Nodup → (∀ e ∈ r.reverse, e.u ∈ vs ∧ e.v ∈ vs) → (reps vs r.reverse).length + r.length = vs.length := by
  intro r
  induction r with
  | nil => intro _ _ _; rw [List.reverse_nil, reps_nil]; rfl
  | cons e r ih =>
    intro ac nd he
    rw [List.reverse_cons] at ac nd he ⊢
    have hnd := nd
    rw [List.map_append, List.nodup_append] at nd
    have hid : e.id ∉ r.reverse.map E.id := fun h => nd.2.2 e.id h e.id (by simp) rfl
    have h1 := ih (ac.sub fun x hx => List.mem_append_left _ hx) nd.1 fun x hx => he x (List.mem_append_left _ hx)
    have hin : e ∈ r.reverse ++ [e] := List.mem_append_right _ (List.mem_singleton.2 rfl)
    have hc : ¬ Cn r.reverse e.u e.v := fun h => ac e hin (h.mono fun x hx => noE_mem.2 ⟨List.mem_append_left _ hx, fun q => hid (by rw [← q]; exact List.mem_map_of_mem hx)⟩)
    have h2 := reps_snoc hs (he e hin) hc
    rw [List.length_cons]; omega
theorem reps_ac {vs : List Int} (hs : vs.Pairwise (· < ·)) {es : List E} (ac : Ac es) (nd : (es.map E.id).Nodup) (he : ∀ e ∈ es, e.u ∈ vs ∧ e.v ∈ vs) : (reps vs es).length + es.length = vs.length := by
  have := reps_forest hs es.reverse (by rw [List.reverse_reverse]; exact ac) (by rw [List.reverse_reverse]; exact nd) (by rw [List.reverse_reverse]; exact he)
  rw [List.reverse_reverse, List.length_reverse] at this
  exact this
theorem del_count {β : Type} (p : Int → Bool) : ∀ {l : List (Int × β)}, NdK l → ∀ {x : Int} {v : β}, lk l x = some v → (l.filter fun q => p q.1).length = ((delK l x).filter fun q => p q.1).length + (if p x = true then 1 else 0) := by
  intro l
  induction l with
  | nil => intro _ x v h; cases h
  | cons a t ih =>
    intro nd x v h
    unfold NdK at nd
    rw [List.map_cons, List.nodup_cons] at nd
    unfold lk at h
    by_cases q : a.1 = x
    · have e1 : delK (a :: t) x = t := by
        unfold delK
        rw [List.filter_cons_of_neg (by simp [q])]
        exact List.filter_eq_self.2 fun y hy => by
          have : y.1 ≠ x := fun e => nd.1 (by rw [q, ← e]; exact List.mem_map_of_mem hy)
          simp [this]
      rw [e1, ← q]
      by_cases q2 : p a.1 = true
      · rw [List.filter_cons_of_pos (p := fun q : Int × β => p q.1) q2, if_pos q2]; rfl
      · rw [List.filter_cons_of_neg (p := fun q : Int × β => p q.1) q2, if_neg q2]; rfl
    · rw [if_neg q] at h
      have e1 : delK (a :: t) x = a :: delK t x := by
        unfold delK
        rw [List.filter_cons_of_pos (by simp [q])]
      rw [e1]
      have := ih nd.2 h
      by_cases q2 : p a.1 = true
      · rw [List.filter_cons_of_pos (p := fun q : Int × β => p q.1) q2, List.filter_cons_of_pos (p := fun q : Int × β => p q.1) q2, List.length_cons, List.length_cons, this]; omega
      · rw [List.filter_cons_of_neg (p := fun q : Int × β => p q.1) q2, List.filter_cons_of_neg (p := fun q : Int × β => p q.1) q2, this]
section
variable {w w' w0 : World} {O O' O0 : Ow} {s s' s0 : HS} {i N : Nat} {v : Int} {x : E} {u : Int}
theorem HM.other (h : HM w O s) {S : Nat → Prop} (k : Keeps S w w') (hS : ∀ b t, O b = some t → ¬ S b) : HM w' O s :=
  ⟨fun t => (h.part t).keep k fun b hb => hS b t hb, fun b t e => Nat.lt_of_lt_of_le (h.dom b t e) k.size⟩
def isT (s : HS) (id : Int) : Bool := s.es.any fun d => d.tr && decide (d.id = id)
theorem isT_of (nd : (s.es.map Ed.id).Nodup) {d : Ed} (hd : d ∈ s.es) : isT s d.id = d.tr := by
  unfold isT
  rw [Bool.eq_iff_iff, List.any_eq_true]
  constructor
  · rintro ⟨y, hy, h⟩
    simp only [Bool.and_eq_true, decide_eq_true_eq] at h
    have : y = d := id_inj nd hy hd h.2
    rw [← this]; exact h.1
  · intro h
    exact ⟨d, hd, by simp [h]⟩
theorem Trees_l0 (nd : (s.es.map Ed.id).Nodup) {r : Nat} (hr : ∀ t, O r ≠ some t) {K0 : Int → World → Prop} (hK : ∀ w' z, HM w' O s → Keeps (fun k => k = r) w w' → z = ((s.vs.length : Int) - ((s.el.filter fun q => isT s q.1).length : Int)) → K0 z w') :
    ∀ (n : Nat) (left : List (Int × Nat)) (cur : Option (Int × Nat)) (z : Int) (w1 : World), left.length ≤ n → NdK left → HM w1 O s → GI w1 eI ePt W64 s.me r s.el left cur → Keeps (fun k => k = r) w w1 → z = (s.vs.length : Int) - ((s.el.filter fun q => isT s q.1).length : Int) + ((left.filter fun q => isT s q.1).length : Int) → (s.el.length ≤ 2048) → s.vs.length ≤ 4096 → left.length ≤ 2048 →
      f_hdt_Graph_Trees.l0 (n + 1) z (some ⟨r, 0, none⟩) w1 K0 := by
  intro n
  induction n with
  | zero =>
    intro left cur z w1 hn ndl hm gi kk hz hel hvl hll
    have : left = [] := List.length_eq_zero_iff.1 (Nat.le_zero.1 hn)
    subst this
    unfold f_hdt_Graph_Trees.l0
    refine gi.next (fun _ => ⟨false, [], rfl, sel_f rfl (hK w1 z hm kk (by simpa using hz))⟩) (fun x v w' hx => by cases hx) eI_inj
  | succ n ih =>
    intro left cur z w1 hn ndl hm gi kk hz hel hvl hll
    unfold f_hdt_Graph_Trees.l0
    refine gi.next (fun e => ⟨false, [], rfl, sel_f rfl (hK w1 z hm kk (by rw [e] at hz; simpa using hz))⟩) (fun x v w2 hx g2 hlt k2 z2 => ⟨true, [.int .i64 x, .pointer (some ⟨v, 0, none⟩)], rfl, sel_t rfl (g2.entry ⟨x, some ⟨v, 0, none⟩, rfl, optB_some rfl ?_⟩)⟩) eI_inj
    have hmem := gi.sub _ hx
    obtain ⟨d, hd, he⟩ := List.mem_map.1 hmem
    have e1 : d.id = x := congrArg Prod.fst he
    have e2 : s.blk d.id = v := congrArg Prod.snd he
    subst e1
    subst e2
    have hm2 : HM w2 O s := hm.other k2 fun b t hb e => hr t (by rw [← e]; exact hb)
    have hb := (hm2.part (.ed d.id) d hd rfl).1
    have hcnt := del_count (isT s) ndl (lk_mem ndl hx)
    rw [isT_of nd hd] at hcnt
    have hlen2 : (s.el.filter fun q => isT s q.1).length ≤ s.el.length := List.length_filter_le _ _
    have hlen3 : (left.filter fun q => isT s q.1).length ≤ left.length := List.length_filter_le _ _
    refine ⟨d.tr, (hb.cell 3).trans rfl, ?_⟩
    cases ht : d.tr with
    | true =>
      rw [ht, if_pos rfl] at hcnt
      refine sel_t rfl ?_
      rw [w64_in (by omega)]
      exact ih (delK left d.id) _ (z - 1) w2 (by omega) (ndl.del _) hm2 g2 (kk.trans k2) (by omega) hel hvl (by omega)
    | false =>
      rw [ht, if_neg (by decide)] at hcnt
      exact sel_f rfl (ih (delK left d.id) _ z w2 (by omega) (ndl.del _) hm2 g2 (kk.trans k2) (by omega) hel hvl (by omega))
theorem HG.trees (h : HG w O s N) : (s.el.filter fun q => isT s q.1).length = (s.fe 0).length ∧ ((reps s.vs s.ab.sk).length : Int) = (s.vs.length : Int) - ((s.fe 0).length : Int) := by
  have c := h.core
  constructor
  · have e1 : (s.el.filter fun q => isT s q.1).length = (s.es.filter fun d => d.tr).length := by
      unfold HS.el
      rw [List.filter_map, List.length_map]
      congr 1
      exact List.filter_congr fun d hd => isT_of c.ids hd
    rw [e1, h.fe]
    have nds : ((s.es.filter fun d => d.tr).map Ed.e).Nodup := by
      have : ((s.es.filter fun d => d.tr).map Ed.id).Nodup := (c.ids : (s.es.map Ed.id).Nodup).sublist (List.filter_sublist.map _)
      have e2 : (s.es.filter fun d => d.tr).map Ed.id = ((s.es.filter fun d => d.tr).map Ed.e).map E.id := by rw [List.map_map]; rfl
      rw [e2] at this
      exact List.Pairwise.of_map (f := E.id) (fun a b h e => h (by rw [e])) this
    have ndf : (s.ab.fe 0).Nodup := by
      rw [← h.fe]
      obtain ⟨Fp, hr, _⟩ := h.hm.part (.fo 0) h.ws.L0
      obtain ⟨_, _, _, _, _, _, _, _, _, _, _, _, h4⟩ := hr
      exact List.Pairwise.of_map (f := E.id) (fun a b h e => by rw [e] at h; omega) h4.ess
    have p := (List.perm_ext_iff_of_nodup nds ndf).2 fun e => by
      rw [c.fe 0 e, List.mem_map]
      constructor
      · rintro ⟨d, hd, rfl⟩
        obtain ⟨h1, h2⟩ := List.mem_filter.1 hd
        exact ⟨d, h1, h2, Nat.zero_le _, rfl⟩
      · rintro ⟨d, hd, ht, _, rfl⟩
        exact ⟨d, List.mem_filter.2 ⟨hd, ht⟩, rfl⟩
    have := p.length_eq
    rw [List.length_map] at this
    exact this
  · have e : reps s.vs s.ab.sk = reps s.vs (s.ab.fe 0) := reps_same fun u v => (c.joined h.sp).symm
    have ndi : ((s.ab.fe 0).map E.id).Nodup := by
      rw [← h.fe]
      obtain ⟨Fp, hr, _⟩ := h.hm.part (.fo 0) h.ws.L0
      obtain ⟨_, _, _, _, _, _, _, _, _, _, _, _, h4⟩ := hr
      exact sorted_nodup h4.ess
    have h1 := reps_ac h.ws.vss c.ac ndi fun e he => by
      obtain ⟨d, hd, _, _, rfl⟩ := (c.fe 0 e).1 he
      exact c.ends d hd
    rw [e, h.fe]; omega
theorem Trees_hg (h : HG w O s N) : Calls Tryz.prog 12 #[.pointer (some ⟨s.G, 0, none⟩)] w fun e w' => e = .returned (.int .i64 ((reps s.vs s.ab.sk).length : Int)) ∧ HG w' O s N ∧ Below w.heap.size w w' := by
  apply f_hdt_Graph_Trees.ok
  unfold f_hdt_Graph_Trees.wp
  refine h.hm.ldV ((h.hm.part .mv).1.len KTv ⟨_, rfl, h.hm.ldE ((h.hm.part .me).1.range KTp fun w1 r e1 z1 gi g1 => ⟨_, rfl, s.el.length + 1, ?_⟩)⟩)
  have h1 := h.below g1
  have hr : ∀ t, O r ≠ some t := fun t e => by have := h.hm.dom r t e; omega
  have hel : s.el.length ≤ 2048 := by
    have : s.el.length = s.es.length := List.length_map _
    rw [this]; exact h.el
  have hv := h.vlen
  have hv2 := h.ws.vlen
  rw [hv]
  refine Trees_l0 (s := s) (O := O) (w := w1) h.core.ids hr ?_ s.el.length s.el none _ w1 (Nat.le_refl _) (h.hm.part .me).1.nd h1.hm gi (.refl _ _) (by omega) hel (by omega) hel
  rintro w2 z hm2 k2 hz _
  obtain ⟨t1, t2⟩ := h.trees
  rw [t1, ← t2] at hz
  exact ⟨by rw [hz], ⟨hm2, h.ws, h.ni, h.core, h.sp, h.dg, h.el, h.L⟩, g1.trans (k2.below g1.size fun k hk e => by omega)⟩
end
end Go.Proofs.YtbhhbnnmdekjiaaGreat.Rd
