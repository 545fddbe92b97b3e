/- The statement DiskLoad: the plain law, its walk's parts. Conditions: none. -/
import Derived.Test.YthekjlglnmhlaaaDkV
import Derived.Test.YthekjlglnmhlaaaRdL5
namespace Go.Proofs.Ythekjlglnmhlaaa.Rd
open Go.Dn Go.RowKit Go.Shelf
set_option linter.unusedVariables false
set_option linter.unusedSimpArgs false
set_option maxRecDepth 100000
theorem wrap_id (l : List Int) (h : l.length = 512) : (secOf l).1 = l := by
  rw [secOf_val, List.take_append_of_le_length (by omega), List.take_of_length_le (by omega)]
theorem secOf_drop {l : List Sec} {i : Nat} (hi : i < l.length) : secOf ((bytesOf l).drop (i * 512)) = l[i] := by
  apply Subtype.ext
  rw [← secOf_take1]
  have e : ((bytesOf l).drop (i * 512)).take 512 = l[i].1 := by
    rw [← piece_bytes hi]
    unfold pieceL
    rw [List.drop_take, Nat.mul_comm]
    congr 1
    omega
  rw [e]
  exact wrap_id _ l[i].2
theorem loadD_bytes {l : List Sec} (h : l.length ≤ 4096) : loadD (bytesOf l) = ⟨l, [], [], 0, false⟩ := by
  have hn : nL (bytesOf l).length = l.length := by unfold nL; rw [bytesOf_len]; omega
  unfold loadD
  congr 1
  rw [hn]
  apply List.ext_getElem
  · rw [loadL_len, hn]
  · intro i h1 h2
    rw [loadL_get, if_pos h2, secOf_drop h2]
/-- a disk by its sectors alone: nothing planned, the power on -/
structure Free (d : Dk) : Prop where
  pl : d.plan = []
  on : d.off = false
theorem free_step {d : Dk} (h : Free d) {act : Dk → Dk} : stepD d act = act { d with steps := wrap64 (d.steps + 1) } := stepD_zero (by unfold stepC; rw [h.pl]; rfl)
/-- the same but for the steps -/
def Like (d x : Dk) : Prop := d.safe = x.safe ∧ d.pend = x.pend ∧ Free d ∧ Free x
theorem Like.has {d x : Dk} (h : Like d x) (i : Int) : hasS d i = hasS x i := by unfold hasS; rw [h.1, h.2.1]
theorem Like.all {d x : Dk} (h : Like d x) : allD d = allD x := by unfold allD; rw [h.1]; congr 1; funext i; exact h.has _
theorem Like.loose {d x : Dk} (h : Like d x) : looseD d = looseD x := by unfold looseD; rw [h.1, h.2.1]
theorem Like.doD {d x : Dk} (h : Like d x) {o : DOp} (h5 : o.kind ≠ 5) : Like (doD d o) (doD x o) := by
  obtain ⟨h1, h2, h3, h4⟩ := h
  have hh : ∀ i, hasS d i = hasS x i := Like.has ⟨h1, h2, h3, h4⟩
  unfold Rd.doD
  split
  · have hb : wrBad d o.i o.data ↔ wrBad x o.i o.data := by unfold wrBad; rw [h1]
    unfold wrD
    rw [if_neg (show ¬ d.off = true by rw [h3.on]; simp), if_neg (show ¬ x.off = true by rw [h4.on]; simp)]
    by_cases b : wrBad d o.i o.data
    · rw [if_pos b, if_pos (hb.1 b)]; exact ⟨h1, h2, h3, h4⟩
    · rw [if_neg b, if_neg (fun q => b (hb.2 q)), free_step h3, free_step h4]
      exact ⟨h1, by show putK d.pend _ _ = putK x.pend _ _; rw [h2], ⟨h3.pl, h3.on⟩, ⟨h4.pl, h4.on⟩⟩
  · split
    · unfold syD
      rw [if_neg (show ¬ d.off = true by rw [h3.on]; simp), if_neg (show ¬ x.off = true by rw [h4.on]; simp), free_step h3, free_step h4]
      refine ⟨?_, rfl, ⟨h3.pl, h3.on⟩, ⟨h4.pl, h4.on⟩⟩
      show flushed { d with steps := _ } [] = flushed { x with steps := _ } []
      unfold flushed hasS
      simp only [h1, h2]
    · split
      · refine ⟨?_, rfl, ⟨h3.pl, rfl⟩, ⟨h4.pl, rfl⟩⟩
        show kept d _ = kept x _
        unfold kept hasS
        rw [h1, h2]
      · exact ⟨h1, h2, h3, h4⟩
end Go.Proofs.Ythekjlglnmhlaaa.Rd
