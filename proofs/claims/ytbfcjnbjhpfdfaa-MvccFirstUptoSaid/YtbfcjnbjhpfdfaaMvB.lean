/- Transactions, plainly: each call keeps what holds. Conditions: none. -/
import Derived.Test.YtbfcjnbjhpfdfaaMvA
namespace Go.Dn
set_option linter.unusedVariables false
theorem TbOk.begin {t : Tb} (h : TbOk t) (h8 : ¬ 8 ≤ t.lives.length) : TbOk ⟨t.txs ++ [⟨t.last, [], true, -1⟩], t.last⟩ := by
  refine ⟨h.l0, h.l1, fun x hx => ?_, fun x hx => ?_, fun x hx => ?_, ?_⟩
  · rcases List.mem_append.1 hx with hx | hx
    · exact h.st x hx
    · obtain rfl : x = _ := by simpa using hx
      exact ⟨h.l0, Int.le_refl _⟩
  · rcases List.mem_append.1 hx with hx | hx
    · exact h.at_ x hx
    · obtain rfl : x = _ := by simpa using hx
      have := h.l0
      exact ⟨by simp only; omega, fun _ => rfl⟩
  · rcases List.mem_append.1 hx with hx | hx
    · exact h.rf x hx
    · obtain rfl : x = _ := by simpa using hx
      simp
  · rw [lives_append rfl, List.length_append]
    simp only [List.length_cons, List.length_nil]; omega
theorem WOk.begin {t : Tb} {W : List (Rf × Int)} (h : WOk t W) (ok : TbOk t) : WOk ⟨t.txs ++ [⟨t.last, [], true, -1⟩], t.last⟩ W := by
  refine ⟨fun r a hr => ?_, fun y hy hgt r hr => ?_⟩
  · obtain ⟨h0, y, hy, h1⟩ := h.w1 r a hr
    exact ⟨h0, y, by simp [hy], h1⟩
  · rw [hor_append rfl] at hgt
    rcases List.mem_append.1 hy with hy | hy
    · exact h.w2 y hy hgt r hr
    · obtain rfl : y = _ := by simpa using hy
      cases hr
theorem TbOk.touch {t : Tb} (h : TbOk t) {n : Int} {x : Tx} (hx : t.get n = some x) {l : List Rf} (hl : ∀ r ∈ l, W64 r.2) : TbOk (t.put n { x with tk := x.tk ++ l }) := by
  have hm := Tb.get_mem hx
  have hlv := (Tb.get_some hx).2.2
  refine ⟨h.l0, h.l1, fun z hz => ?_, fun z hz => ?_, fun z hz => ?_, ?_⟩
  · rcases Tb.mem_put hx hz with rfl | hz
    · exact h.st x hm
    · exact h.st z hz
  · rcases Tb.mem_put hx hz with rfl | hz
    · exact h.at_ x hm
    · exact h.at_ z hz
  · rcases Tb.mem_put hx hz with rfl | hz
    · intro r hr
      rcases List.mem_append.1 hr with hr | hr
      · exact h.rf x hm r hr
      · exact hl r hr
    · exact h.rf z hz
  · rw [lives_put_live hx (y := { x with tk := x.tk ++ l }) hlv]; exact h.le8
theorem hor_put_live {t : Tb} {n : Int} {x y : Tx} (hx : t.get n = some x) (hy : y.live = true) (hs : y.start = x.start) : (t.put n y).hor = t.hor := by
  refine (t.put n y).hor_is.uniq ⟨t.hor_is.le, fun m z hz => ?_, ?_⟩
  · rw [Tb.get_put hx] at hz
    by_cases em : m = n
    · rw [if_pos em, if_pos hy] at hz
      injection hz with hz; subst hz
      have := t.hor_is.all n x hx; omega
    · rw [if_neg em] at hz; exact t.hor_is.all m z hz
  · rcases t.hor_is.one with e | ⟨m, z, hz, e⟩
    · exact .inl e
    · by_cases em : m = n
      · subst em
        rw [hx] at hz; injection hz with hz; subst hz
        exact .inr ⟨m, y, by rw [Tb.get_put hx, if_pos rfl, if_pos hy], by rw [hs]; exact e⟩
      · exact .inr ⟨m, z, by rw [Tb.get_put hx, if_neg em]; exact hz, e⟩
theorem WOk.touch {t : Tb} {W : List (Rf × Int)} (h : WOk t W) (ok : TbOk t) {n : Int} {x : Tx} (hx : t.get n = some x) {l : List Rf} : WOk (t.put n { x with tk := x.tk ++ l }) W := by
  have hm := Tb.get_mem hx
  have hlv := (Tb.get_some hx).2.2
  have hat := (ok.at_ x hm).2 hlv
  refine ⟨fun r a hr => ?_, fun y hy hgt r hr => ?_⟩
  · obtain ⟨h0, y, hy, h1, h2⟩ := h.w1 r a hr
    exact ⟨h0, y, Tb.put_mem hx hy (by omega), h1, h2⟩
  · rw [hor_put_live hx (y := { x with tk := x.tk ++ l }) hlv rfl] at hgt
    rcases Tb.mem_put hx hy with rfl | hy
    · have := ok.hor0
      simp only at hgt; omega
    · exact h.w2 y hy hgt r hr
/-- one is over -/
theorem TbOk.over {t : Tb} (h : TbOk t) {n : Int} {x : Tx} (hx : t.get n = some x) {a l : Int} (ha : a ≤ l) (hl : t.last ≤ l) (hl1 : l ≤ mxT) : TbOk ⟨(t.put n { x with live := false, at_ := a }).txs, l⟩ := by
  have hm := Tb.get_mem hx
  have h0 := h.l0
  refine ⟨by simp only; omega, hl1, fun z hz => ?_, fun z hz => ?_, fun z hz => ?_, ?_⟩
  · rcases Tb.mem_put hx hz with rfl | hz
    · have := h.st x hm; simp only; omega
    · have := h.st z hz; simp only; omega
  · rcases Tb.mem_put hx hz with rfl | hz
    · exact ⟨ha, fun h => by simp at h⟩
    · have := h.at_ z hz
      exact ⟨by simp only; omega, this.2⟩
  · rcases Tb.mem_put hx hz with rfl | hz
    · exact h.rf x hm
    · exact h.rf z hz
  · have e : (⟨(t.put n { x with live := false, at_ := a }).txs, l⟩ : Tb).lives = (t.put n { x with live := false, at_ := a }).lives := rfl
    rw [e, lives_put_dead hx rfl]
    exact Nat.le_trans (List.length_filter_le _ _) h.le8
theorem get_last (t : Tb) (l : Int) (n : Int) : (⟨t.txs, l⟩ : Tb).get n = t.get n := rfl
theorem get_over {t : Tb} {n : Int} {x : Tx} (hx : t.get n = some x) {a l : Int} (m : Int) : (⟨(t.put n { x with live := false, at_ := a }).txs, l⟩ : Tb).get m = if m = n then none else t.get m := by
  rw [get_last, Tb.get_put hx]
  simp
theorem hor_over {t : Tb} {n : Int} {x : Tx} (hx : t.get n = some x) {a l : Int} (hl : t.last ≤ l) : t.hor ≤ (⟨(t.put n { x with live := false, at_ := a }).txs, l⟩ : Tb).hor := by
  rcases (⟨(t.put n { x with live := false, at_ := a }).txs, l⟩ : Tb).hor_is.one with e | ⟨m, z, hz, e⟩
  · rw [e]; have := t.hor_is.le; simp only; omega
  · rw [← e]
    rw [get_over hx] at hz
    split at hz
    · cases hz
    · exact t.hor_is.all m z hz
theorem WOk.over {t : Tb} {W : List (Rf × Int)} (h : WOk t W) (ok : TbOk t) {n : Int} {x : Tx} (hx : t.get n = some x) : WOk (t.put n { x with live := false }) W := by
  have hm := Tb.get_mem hx
  have hlv := (Tb.get_some hx).2.2
  have hat := (ok.at_ x hm).2 hlv
  refine ⟨fun r a hr => ?_, fun y hy hgt r hr => ?_⟩
  · obtain ⟨h0, y, hy, h1, h2⟩ := h.w1 r a hr
    exact ⟨h0, y, Tb.put_mem hx hy (by omega), h1, h2⟩
  · have hh : t.hor ≤ (t.put n { x with live := false }).hor := hor_over hx (a := x.at_) (Int.le_refl _)
    have := ok.hor0
    rcases Tb.mem_put hx hy with rfl | hy
    · simp only at hgt; omega
    · exact h.w2 y hy (by omega) r hr
/-- what nobody can be in conflict with is dropped -/
theorem WOk.drop {t : Tb} {W W' : List (Rf × Int)} (h : WOk t W) (hW : ∀ r a, lk W' r = some a ↔ lk W r = some a ∧ t.hor < a) : WOk t W' := by
  refine ⟨fun r a hr => h.w1 r a ((hW r a).1 hr).1, fun y hy hgt r hr => ?_⟩
  obtain ⟨a, ha, hle⟩ := h.w2 y hy hgt r hr
  exact ⟨a, (hW r a).2 ⟨ha, by omega⟩, hle⟩
/-- a commit's elements are written down -/
theorem WOk.commit {t : Tb} {W W' : List (Rf × Int)} (ok : TbOk t) {n : Int} {x : Tx} (hx : t.get n = some x) (h : WOk (t.put n { x with live := false }) W) (hW : ∀ r, lk W' r = if r ∈ x.tk then some (t.last + 1) else lk W r) :
    WOk ⟨(t.put n { x with live := false, at_ := t.last + 1 }).txs, t.last + 1⟩ W' := by
  have hm := Tb.get_mem hx
  have hlv := (Tb.get_some hx).2.2
  have hat := (ok.at_ x hm).2 hlv
  have hl0 := ok.l0
  refine ⟨fun r a hr => ?_, fun y hy hgt r hr => ?_⟩
  · rw [hW] at hr
    split at hr
    · rename_i hin
      injection hr with hr; subst hr
      exact ⟨by omega, _, Tb.put_self hx, rfl, hin⟩
    · obtain ⟨h0, y, hy, h1, h2⟩ := h.w1 r a hr
      refine ⟨h0, y, ?_, h1, h2⟩
      rcases Tb.mem_put hx hy with rfl | hy
      · simp only at h1; omega
      · exact Tb.put_mem hx hy (by omega)
  · rw [hW]
    rcases Tb.mem_put hx hy with rfl | hy
    · rw [if_pos hr]; exact ⟨_, rfl, Int.le_refl _⟩
    · have h1 : t.hor ≤ _ := hor_over hx (a := t.last + 1) (l := t.last + 1) (by omega)
      have h2 : (t.put n { x with live := false }).hor ≤ (⟨(t.put n { x with live := false, at_ := t.last + 1 }).txs, t.last + 1⟩ : Tb).hor := by
        rcases (⟨(t.put n { x with live := false, at_ := t.last + 1 }).txs, t.last + 1⟩ : Tb).hor_is.one with e | ⟨m, z, hz, e⟩
        · rw [e]
          have := (t.put n { x with live := false }).hor_is.le
          have e2 : (t.put n { x with live := false }).last = t.last := rfl
          rw [e2] at this; simp only; omega
        · rw [← e]
          refine (t.put n { x with live := false }).hor_is.all m z ?_
          rw [get_over hx] at hz
          rw [Tb.get_put hx]
          split at hz
          · cases hz
          · rename_i hne; rw [if_neg hne]; exact hz
      have h3 := ok.hor0
      have h4 := (ok.at_ y hy).1
      obtain ⟨a, ha, hle⟩ := h.w2 y (Tb.put_mem hx hy (by omega)) (by omega) r hr
      by_cases hin : r ∈ x.tk
      · rw [if_pos hin]; exact ⟨_, rfl, by omega⟩
      · rw [if_neg hin]; exact ⟨a, ha, hle⟩
theorem TbOk.begin_ {t : Tb} (h : TbOk t) : TbOk t.begin.1 := by
  unfold Tb.begin
  split
  · exact h
  · rename_i h8; exact h.begin h8
theorem TbOk.touch_ {t : Tb} (h : TbOk t) (n : Int) {l : List Rf} (hl : ∀ r ∈ l, W64 r.2) : TbOk (t.touch n l).1 := by
  unfold Tb.touch
  split
  · exact h
  · rename_i x hx; exact h.touch hx hl
theorem TbOk.end_ {t : Tb} (h : TbOk t) {n : Int} {x : Tx} (hx : t.get n = some x) : TbOk (t.put n { x with live := false }) :=
  h.over hx (a := x.at_) ((h.at_ x (Tb.get_mem hx)).1) (Int.le_refl _) h.l1
theorem TbOk.abort {t : Tb} (h : TbOk t) (n : Int) : TbOk (t.abort n).1 := by
  unfold Tb.abort
  split
  · exact h
  · rename_i x hx; exact h.end_ hx
theorem Tb.try_zero {t : Tb} {n : Int} {x : Tx} (hx : t.get n = some x) (h : t.try_ n = 0) : t.clash x = false ∧ (x.tk = [] ∨ t.last < mxT) := by
  unfold Tb.try_ at h
  rw [hx] at h
  simp only at h
  split at h
  · cases h
  · rename_i hc
    split at h
    · cases h
    · rename_i h2
      refine ⟨by simpa using hc, ?_⟩
      by_cases e : x.tk = []
      · exact .inl e
      · exact .inr (by
          have : ¬ mxT ≤ t.last := fun h3 => h2 ⟨e, h3⟩
          omega)
theorem TbOk.commit {t : Tb} (h : TbOk t) (n : Int) : TbOk (t.commit n).1 := by
  unfold Tb.commit
  split
  · exact h
  · rename_i x hx
    split
    · exact h.end_ hx
    · rename_i ht
      have ht : t.try_ n = 0 := by omega
      split
      · exact h.end_ hx
      · rename_i hk
        have := ((Tb.try_zero hx ht).2).resolve_left hk
        exact h.over hx (Int.le_refl _) (by omega) (by omega)
end Go.Dn
