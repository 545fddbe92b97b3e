/- Splaying walked whole. Conditions: none. -/
import Derived.Test.YtfknppccgojhdaaLcE
namespace Go.Dn
open Go.RowKit
set_option linter.unusedVariables false
def zs (l : List Nat) : List Int := l.map fun (i : Nat) => (i : Int)
theorem zs_len (l : List Nat) : (zs l).length = l.length := by simp [zs]
theorem zs_app (l m : List Nat) : zs (l ++ m) = zs l ++ zs m := by simp [zs]
theorem nodup_le : ∀ (n : Nat) (l : List Nat), l.Nodup → (∀ i ∈ l, i < n) → l.length ≤ n
  | 0, l, _, h => by
    cases l with
    | nil => simp
    | cons a l => exact absurd (h a (by simp)) (by omega)
  | n + 1, l, nd, h => by
    by_cases hm : n ∈ l
    · have h1 := nodup_le n (l.erase n) (nd.erase n) (fun i hi => by
        have := h i (List.mem_of_mem_erase hi)
        have : i ≠ n := fun e => by rw [e] at hi; exact (List.Nodup.not_mem_erase nd) hi
        omega)
      rw [List.length_erase_of_mem hm] at h1; omega
    · have := nodup_le n l nd (fun i hi => by have := h i hi; have : i ≠ n := fun e => hm (e ▸ hi); omega)
      omega
theorem ne_of_mem_nd {l : List Nat} {x a : Nat} (h : x ∈ l) (k : a ∉ l) : x ≠ a := fun e => k (e ▸ h)
theorem nodup_sub : ∀ {l m : List Nat}, l.Nodup → (∀ x ∈ l, x ∈ m) → l.length ≤ m.length
  | [], _, _, _ => by simp
  | a :: l, m, nd, h => by
    rw [List.nodup_cons] at nd
    have ha : a ∈ m := h a (by simp)
    have := nodup_sub (l := l) (m := m.erase a) nd.2 fun x hx => (List.mem_erase_of_ne (ne_of_mem_nd hx nd.1)).2 (h x (by simp [hx]))
    rw [List.length_erase_of_mem ha] at this
    have := List.length_pos_of_mem ha
    simp only [List.length_cons]; omega
theorem kids_len (k : List Fm) : k.length ≤ (kids k).length := by
  induction k with
  | nil => simp
  | cons f k ih => simp [kids]; omega
theorem pth_root {t : ST} {qs : List Nat} {x : Nat} (h : Pth t qs x) : t.root ∈ t.ids := by cases h <;> simp [ST.root, ST.ids]
end Go.Dn
namespace Go.Proofs.Ytfknppccgojhdaa.Rd
open Go.Dn Go.RowKit
set_option linter.unusedVariables false
set_option maxRecDepth 100000
theorem TIn : IntTy Try.prog 26 3 := ⟨by kernel_rfl, by kernel_rfl⟩
theorem splay_l0 {own : Nat → E} {S : Nat → Prop} {r : LC} {w0 : World} {N : Nat → Nd} {T : ST} {pp : Nat} {K : Option Addr → Nat → Nat → World → Prop} (hl0 : Lp w0 r N) (hr : Rm own S r N) (hT : Tre own S r N T pp) (hn : r.n ≤ 1000000) {B : Nat} (hB : B = w0.heap.size) :
    ∀ (k : List Fm) (t : ST) (w : World) (ps : List Nat) (A : Option Addr) (c n : Nat), plug k t = T → t.root ≠ 0 → Lp w r N → Keeps (fun k => k = r.g) w0 w → OwnI w B 3 A c (zs ps) → n = ps.length → ps.length + k.length ≤ r.n →
      (∀ w' A' c', Lp w' r N → Keeps (fun k => k = r.g) w0 w' → OwnI w' B 3 A' c' (zs (ps ++ k.map Fm.p)) → K A' (ps ++ k.map Fm.p).length c' w') → f_linkcut_Forest_splay.l0 (k.length + 1) ⟨r.R, 0, none⟩ A n c (t.root : Int) w K := by
  intro k
  induction k with
  | nil =>
    intro t w ps A c n hpl h0 hl hk ho hn' hle hK
    unfold f_linkcut_Forest_splay.l0
    have htm : t.root ∈ T.ids := by rw [← hpl]; exact root_mem h0
    have hpl' : t = T := hpl
    refine (side_ok hl (hr.sl _ (hT.inS _ htm)) ?_).mono ?_
    · rw [up_root (hpl' ▸ hT.ok) h0]; exact hT.pl
    rintro e w' ⟨rfl, hw⟩
    rw [hw]
    refine ⟨_, rfl, ?_⟩
    rw [side_top (hpl' ▸ hT.ok) h0 (hpl' ▸ hT.nk)]
    refine sel_f (by decide) ?_
    have := hK w A c hl hk (by simpa using ho)
    rw [hn']; simpa using this
  | cons f k ih =>
    intro t w ps A c n hpl h0 hl hk ho hn' hle hK
    have hT' : Tre own S r N (plug (f :: k) t) pp := hpl ▸ hT
    have hu : (N t.root).up = f.p := up_root (OkS.sub (f :: k) hT'.ok) h0
    have hin : ∀ y, y ∈ t.ids ∨ y ∈ kids (f :: k) → y < r.n := fun y hy => hr.sl y (hT'.inS y ((plug_ids _ _).mem_iff.2 (by simpa using hy)))
    have flt : f.p < r.n := hin _ (.inr (by simp [kids]))
    have tlt : t.root < r.n := hin _ (.inl (root_mem h0))
    show f_linkcut_Forest_splay.l0 ((k.length + 1) + 1) _ _ _ _ _ _ _
    unfold f_linkcut_Forest_splay.l0
    refine (side_ok hl tlt (by rw [hu]; exact flt)).mono ?_
    rintro e w' ⟨rfl, hw⟩
    rw [hw]
    refine ⟨_, rfl, ?_⟩
    rw [side_plug hT'.ok hT'.nd h0]
    refine sel_t (sI_ge _) ?_
    refine lc_at (K := fun a => ldI w ((a.add _).add 2) .i64 _) hl tlt rfl (lc_ld hl tlt rfl 2 (by omega) rfl ?_)
    rw [hu]
    have bB : B ≤ w.heap.size := by rw [hB]; exact hk.size
    refine alW_intro ?_
    have hba : Below w.heap.size w (w.alloc (.cells #[.int .i64 (f.p : Int)] 3)) := (Below.refl _ _).alloc (Nat.le_refl _) _
    have ho2 := ho.keeps (S := fun _ => False) (.of_below hba) (fun _ _ => id)
    refine appI_runs TIn ho2 (by rw [zs_len]; exact hn') (RI.lit w [(f.p : Int)] rfl _) rfl (fun h => by cases h) (by have := hba.size; omega) (by rw [zs_len]; simp only [List.length_cons, List.length_nil] at hle ⊢; omega) fun A' c' w' ho' hb' _ _ => ?_
    have l1 := hl.below hba
    have hgB : r.g < B := by rw [hB]; exact hl0.g_lt.2
    have hRB : r.R < B := by rw [hB]; exact hl0.R_lt
    have l2 : Lp w' r N := l1.keeps (Keeps.of_ge hb') (by omega) (by omega)
    refine ⟨_, _, _, rfl, ?_⟩
    have k2 : Keeps (fun k => k = r.g) w0 w' := (hk.trans (.of_below hba)).trans' (Keeps.of_ge hb') (fun k h1 h2 => by omega)
    have e1 : zs ps ++ [(f.p : Int)] = zs (ps ++ [f.p]) := by simp [zs]
    rw [e1] at ho' ⊢
    have := ih (plug1 f t) w' (ps ++ [f.p]) A' c' (zs (ps ++ [f.p])).length hpl (by rw [plug1_root]; exact (OkS.sub k (t := plug1 f t) hT'.ok).sub1.1) l2 k2 ho' (by rw [zs_len]) (by simp only [List.length_append, List.length_cons, List.length_nil] at hle ⊢; omega) (fun w3 A3 c3 l3 k3 o3 => by
      have := hK w3 A3 c3 l3 k3 (by simpa using o3)
      simpa using this)
    rw [plug1_root] at this
    exact this
theorem splay_l1 {own : Nat → E} {S : Nat → Prop} {r : LC} {w0 : World} {N0 : Nat → Nd} {T0 : ST} {pp x : Nat} {K : World → Prop} (hr0 : Rm own S r N0) (hT0 : Tre own S r N0 T0 pp) {A : Option Addr} {c : Nat} {P : List Nat} {B : Nat} (hB : r.g < B) (hP : P.length ≤ 1000000)
    (hK : ∀ w N k a b, OwnI w B 3 A c (zs P) → Tst own S r w0 w N0 N T0 (plug k (.node x false a b)) pp → (plug k (.node x false a b)).flat = T0.flat → (∀ f ∈ k, f.t = false) → K w) :
    ∀ (qs : List Nat) (k : List Fm) (t : ST) (N : Nat → Nd) (w : World) (rest : List Nat), Pth t qs x → P = qs.reverse ++ rest → OwnI w B 3 A c (zs P) → Tst own S r w0 w N0 N T0 (plug k t) pp → (plug k t).flat = T0.flat → (∀ f ∈ k, f.t = false) →
      ∀ i : Int, i = (qs.length : Int) - 1 → f_linkcut_Forest_splay.l1 (qs.length + 1) ⟨r.R, 0, none⟩ A P.length c i w K := by
  intro qs
  induction qs with
  | nil => intro k t N w rest hp; exact absurd rfl hp.ne
  | cons y qs ih =>
    intro k t N w rest hp hPe ho ht hfl hk i hi
    have hT := ht.tre hT0
    have hr := ht.rm hr0
    have htm : t.root ∈ t.ids := pth_root hp
    have h0 : t.root ≠ 0 := (OkS.sub k hT.ok).nz _ htm
    obtain ⟨y', l, rr, e1, e2, e3⟩ := hp.push
    have hy : y = t.root := by
      rcases e3 with ⟨e3, e4⟩ | ⟨qs', e3, _⟩
      · injection e3 with e3; rw [e2, e4, e3]
      · injection e3 with e3; rw [e2, e3]
    have hPlen : qs.length < P.length := by rw [hPe]; simp
    have hPget : (zs P)[qs.length]'(by rw [zs_len]; exact hPlen) = (y : Int) := by
      have : P[qs.length]? = some y := by
        rw [hPe, List.reverse_cons, List.append_assoc, List.getElem?_append_right (by simp)]
        simp
      have h2 := (List.getElem?_eq_some_iff.1 this).2
      simp [zs, h2]
    show f_linkcut_Forest_splay.l1 ((qs.length + 1) + 1) _ _ _ _ _ _ _
    unfold f_linkcut_Forest_splay.l1
    subst hi
    have hi' : ((y :: qs).length : Int) - 1 = (qs.length : Int) := by simp only [List.length_cons]; omega
    rw [hi']
    refine sel_t (by simp) ?_
    obtain ⟨a, ha, hc⟩ := ho.reads qs.length (by rw [zs_len]; exact hPlen)
    refine optB_some ha (req_intro (by simp; exact hPlen) ?_)
    rw [show ((qs.length : Int)).toNat * 1 = qs.length by simp]
    refine ldI_intro hc ?_
    rw [hPget, hy]
    refine (push_tree ht.aft.1 hr hT h0).mono ?_
    rintro e w2 ⟨rfl, N2, t2⟩
    refine ⟨rfl, ?_⟩
    have t3 := ht.trans t2
    have o2 : OwnI w2 B 3 A c (zs P) := ho.keeps t2.aft.2 (fun a' ha' hg => by have := (ho.block a' ha').1; omega)
    have fl2 : (plug k t.push).flat = T0.flat := (plug_flat k (ST.push_flat t)).trans hfl
    rw [w64_in (by omega)]
    rw [e1] at t3 fl2
    rcases e3 with ⟨e3, e4⟩ | ⟨qs', e3, e4⟩
    · injection e3 with e3 e5
      subst e4; subst e5
      unfold f_linkcut_Forest_splay.l1
      exact sel_f (by simp) (hK w2 N2 k l rr o2 t3 fl2 hk)
    · injection e3 with e3 e5
      subst e5
      rcases e4 with e4 | e4
      · exact ih (⟨false, y', false, rr⟩ :: k) l N2 w2 (y :: rest) e4 (by rw [hPe]; simp) o2 t3 fl2 (by simpa using hk) _ rfl
      · exact ih (⟨true, y', false, l⟩ :: k) rr N2 w2 (y :: rest) e4 (by rw [hPe]; simp) o2 t3 fl2 (by simpa using hk) _ rfl
/-- splay: the node becomes the root; the order stays -/
theorem splay_ok {own : Nat → E} {S : Nat → Prop} {w : World} {r : LC} {N : Nat → Nd} (h : Lp w r N) (hr : Rm own S r N) (hn : r.n ≤ 1000000) {T : ST} {pp x : Nat} (hT : Tre own S r N T pp) (hx : x ∈ T.ids) :
    Calls Try.prog 43 #[.pointer (some ⟨r.R, 0, none⟩), .int .i64 (x : Int)] w fun e w' => e = .returned (.tuple #[]) ∧ ∃ N' a b, Tst own S r w w' N N' T (.node x false a b) pp ∧ (ST.node x false a b).flat = T.flat := by
  apply f_linkcut_Forest_splay.ok
  unfold f_linkcut_Forest_splay.wp
  obtain ⟨k, t, l, rr, rfl⟩ := find_plug hx
  have hx0 : x ≠ 0 := hT.ok.nz x hx
  refine alW_intro ⟨k.length + 1, ?_⟩
  have hba : Below w.heap.size w (w.alloc (.cells #[.int .i64 (x : Int)] 3)) := (Below.refl _ _).alloc (Nat.le_refl _) _
  have l1 := h.below hba
  have hlen : 1 + k.length ≤ r.n := by
    have h1 := nodup_le r.n _ hT.nd fun y hy => hr.sl y (hT.inS y hy)
    have h2 := (plug_ids k (.node x t l rr)).length_eq
    have h3 := kids_len k
    simp [ST.ids] at h2
    omega
  refine splay_l0 (own := own) (S := S) (N := N) (T := plug k (.node x t l rr)) (pp := pp) h hr hT hn rfl k (.node x t l rr) _ [x] _ 1 1 rfl hx0 l1 (.of_below hba) (OwnI.lit [(x : Int)] rfl (Nat.le_refl _) (by simp)) rfl hlen fun w2 A c l2 k2 o2 => ?_
  intro _
  refine ⟨(k.map Fm.p ++ [x]).length + 1, ?_⟩
  have hpth : Pth (plug k (.node x t l rr)) ((k.map Fm.p).reverse ++ [x]) x := Pth.plug k (.here x t l rr)
  have hP : [x] ++ k.map Fm.p = ((k.map Fm.p).reverse ++ [x]).reverse ++ [] := by simp
  have hPl : ([x] ++ k.map Fm.p).length ≤ 1000000 := by simp at hlen ⊢; omega
  have hw : IntKind.i64.wrap (((([x] ++ k.map Fm.p).length : Nat) : Int) - 1) = ((((k.map Fm.p).reverse ++ [x]).length : Nat) : Int) - 1 := by
    rw [w64_in (by omega)]; simp
  have hfu : (k.map Fm.p ++ [x]).length + 1 = ((k.map Fm.p).reverse ++ [x]).length + 1 := by simp
  rw [hw, hfu]
  refine splay_l1 (own := own) (S := S) hr hT (P := [x] ++ k.map Fm.p) h.g_lt.2 hPl (fun w3 N3 k3 a3 b3 o3 t3 fl3 hk3 => ?_) _ [] _ N w2 [] hpth hP o2 (Tst.refl l2 k2 hT.ok) rfl (by simp) _ rfl
  intro _
  have T3 := t3.tre hT
  have hr3 := t3.rm hr
  have xm : x ∈ (plug k3 (ST.node x false a3 b3)).ids := (plug_ids k3 _).mem_iff.2 (by simp [ST.ids])
  refine (side_ok t3.aft.1 (hr3.sl x (T3.inS x xm)) ?_).mono ?_
  · rcases T3.ok.up_in x xm with h | h
    · rw [h.2]; exact T3.pl
    · exact hr3.sl _ (T3.inS _ h)
  rintro e w4 ⟨rfl, hw4⟩
  rw [hw4]
  refine ⟨_, rfl, k3.length + 1, ?_⟩
  refine splay_l2 (own := own) (S := S) hr hT (fun w5 N5 a5 b5 t5 fl5 => ?_) (k3.length + 1) k3 a3 b3 N3 w3 (by omega) hk3 t3 fl3 _ rfl
  exact fun _ => And.intro rfl ⟨N5, a5, b5, t5, fl5⟩
end Go.Proofs.Ytfknppccgojhdaa.Rd
