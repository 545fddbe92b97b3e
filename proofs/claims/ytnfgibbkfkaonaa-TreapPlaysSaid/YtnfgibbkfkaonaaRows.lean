/-
  No cell of these rows narrows 'for every input' (looked for: loops, veiled, ifaces, maps, wideKeys, modest, calm, conditions, laid).
  DERIVED. THE GIVEN ROWS OF THIS SEAT. 5 by the template 'for every input the law returns true; each argument reads behind the call as it read before'; 0 by the template 'total and deterministic' (their statements: YtnfgibbkfkaonaaTotals.lean).
  GIVEN WITH THE SEED: the statements are not yours to turn. If you find one false, say at which input.
  Laid BY PROGRAM, IN A SANDBOX (cutbox-rows.mjs): the forced cells as the released guide's own fill.sh prints them over the translation ca88f6bac07d6387… (all of the seat's roots in one cut). By AI agents, Wed Nov 11 2026. No macro, syntax, notation, axiom, sorry.
-/
import Derived.Test.YtnfgibbkfkaonaaChecked
import GoSem.Claim
import GoSem.ClaimJoined
import GoSem.ClaimMapViews
import Derived.JoinedTies
import Derived.KernelRfl
namespace Go.Proofs.Ytnfgibbkfkaonaa
/- THE CELL 'sum', in the pinned program and in every row, IS THE sha256 OF THE DUMP (.gsa) THAT YtnfgibbkfkaonaaProg.lean LOADS. Nothing in Lean hashes anything: it is a label: what it is worth is what the hold of that sum in a sandbox is worth. -/
noncomputable def Try.pinned : Pinned := { name := "ytnfgibbkfkaonaa", sum := "ca88f6bac07d6387136e1b03c698c965602112b40ff9ef5795ee3c4d7200a44d", checked := Try.checked }
namespace Rows
def none {H : Type} : Left H := { results := [], args := [] }

/-- 'skeinlaw15.TreapSeeds': WHATEVER THE INPUT: true; the input reads as it did. -/
def treapSeedsSpec : ChangeSpec := { name := "treapSeeds", fn := fun _ => fun
  | [d1, d2, d3] => { results := [.lit (.bool true)], args := [d1, d2, d3] }
  | _ => none }
def treapSeedsRow : OpenClaim := { program := "ytnfgibbkfkaonaa", sum := "ca88f6bac07d6387136e1b03c698c965602112b40ff9ef5795ee3c4d7200a44d", func := "skein/skeinlaw15.TreapSeeds", spec := "treapSeeds", unfollowed := true, recurses := true, apart := false }
def TreapSeedsSaid : Prop := treapSeedsRow.holds Try.pinned (OpenSpec.ofChange treapSeedsSpec)

/-- ITS FALSE NEIGHBOUR: 'it returns false'. Refute it at one input. -/
def treapSeedsWrong : ChangeSpec := { name := "treapSeeds", fn := fun _ => fun
  | [d1, d2, d3] => { results := [.lit (.bool false)], args := [d1, d2, d3] }
  | _ => none }
def TreapSeedsWrongFalsely : Prop := treapSeedsRow.holds Try.pinned (OpenSpec.ofChange treapSeedsWrong)

/-- 'skeinlaw15.TreapRows': WHATEVER THE INPUT: true; the input reads as it did. -/
def treapRowsSpec : ChangeSpec := { name := "treapRows", fn := fun _ => fun
  | [d1, d2, d3, d4, d5] => { results := [.lit (.bool true)], args := [d1, d2, d3, d4, d5] }
  | _ => none }
def treapRowsRow : OpenClaim := { program := "ytnfgibbkfkaonaa", sum := "ca88f6bac07d6387136e1b03c698c965602112b40ff9ef5795ee3c4d7200a44d", func := "skein/skeinlaw15.TreapRows", spec := "treapRows", unfollowed := true, recurses := true, apart := false }
def TreapRowsSaid : Prop := treapRowsRow.holds Try.pinned (OpenSpec.ofChange treapRowsSpec)

/-- ITS FALSE NEIGHBOUR: 'it returns false'. Refute it at one input. -/
def treapRowsWrong : ChangeSpec := { name := "treapRows", fn := fun _ => fun
  | [d1, d2, d3, d4, d5] => { results := [.lit (.bool false)], args := [d1, d2, d3, d4, d5] }
  | _ => none }
def TreapRowsWrongFalsely : Prop := treapRowsRow.holds Try.pinned (OpenSpec.ofChange treapRowsWrong)

/-- 'skeinlaw15.TreapSums': WHATEVER THE INPUT: true; the input reads as it did. -/
def treapSumsSpec : ChangeSpec := { name := "treapSums", fn := fun _ => fun
  | [d1, d2, d3, d4, d5] => { results := [.lit (.bool true)], args := [d1, d2, d3, d4, d5] }
  | _ => none }
def treapSumsRow : OpenClaim := { program := "ytnfgibbkfkaonaa", sum := "ca88f6bac07d6387136e1b03c698c965602112b40ff9ef5795ee3c4d7200a44d", func := "skein/skeinlaw15.TreapSums", spec := "treapSums", unfollowed := true, recurses := true, apart := false }
def TreapSumsSaid : Prop := treapSumsRow.holds Try.pinned (OpenSpec.ofChange treapSumsSpec)

/-- ITS FALSE NEIGHBOUR: 'it returns false'. Refute it at one input. -/
def treapSumsWrong : ChangeSpec := { name := "treapSums", fn := fun _ => fun
  | [d1, d2, d3, d4, d5] => { results := [.lit (.bool false)], args := [d1, d2, d3, d4, d5] }
  | _ => none }
def TreapSumsWrongFalsely : Prop := treapSumsRow.holds Try.pinned (OpenSpec.ofChange treapSumsWrong)

/-- 'skeinlaw15.TreapSeams': WHATEVER THE INPUT: true; the input reads as it did. -/
def treapSeamsSpec : ChangeSpec := { name := "treapSeams", fn := fun _ => fun
  | [d1, d2, d3, d4] => { results := [.lit (.bool true)], args := [d1, d2, d3, d4] }
  | _ => none }
def treapSeamsRow : OpenClaim := { program := "ytnfgibbkfkaonaa", sum := "ca88f6bac07d6387136e1b03c698c965602112b40ff9ef5795ee3c4d7200a44d", func := "skein/skeinlaw15.TreapSeams", spec := "treapSeams", unfollowed := true, recurses := true, apart := false }
def TreapSeamsSaid : Prop := treapSeamsRow.holds Try.pinned (OpenSpec.ofChange treapSeamsSpec)

/-- ITS FALSE NEIGHBOUR: 'it returns false'. Refute it at one input. -/
def treapSeamsWrong : ChangeSpec := { name := "treapSeams", fn := fun _ => fun
  | [d1, d2, d3, d4] => { results := [.lit (.bool false)], args := [d1, d2, d3, d4] }
  | _ => none }
def TreapSeamsWrongFalsely : Prop := treapSeamsRow.holds Try.pinned (OpenSpec.ofChange treapSeamsWrong)

/-- 'skeinlaw15.TreapPlays': WHATEVER THE INPUT: true; the input reads as it did. -/
def treapPlaysSpec : ChangeSpec := { name := "treapPlays", fn := fun _ => fun
  | [d1, d2] => { results := [.lit (.bool true)], args := [d1, d2] }
  | _ => none }
def treapPlaysRow : OpenClaim := { program := "ytnfgibbkfkaonaa", sum := "ca88f6bac07d6387136e1b03c698c965602112b40ff9ef5795ee3c4d7200a44d", func := "skein/skeinlaw15.TreapPlays", spec := "treapPlays", unfollowed := true, recurses := true, apart := false }
def TreapPlaysSaid : Prop := treapPlaysRow.holds Try.pinned (OpenSpec.ofChange treapPlaysSpec)

/-- ITS FALSE NEIGHBOUR: 'it returns false'. Refute it at one input. -/
def treapPlaysWrong : ChangeSpec := { name := "treapPlays", fn := fun _ => fun
  | [d1, d2] => { results := [.lit (.bool false)], args := [d1, d2] }
  | _ => none }
def TreapPlaysWrongFalsely : Prop := treapPlaysRow.holds Try.pinned (OpenSpec.ofChange treapPlaysWrong)

/- THE SECOND FORM. 'bulk': how many values and letters a reading holds, each counted each time it is reached (what is shared counts as often as it is met; a slice's spare places count too). A statement '..UptoSaid' is the law's where the arguments, and the package variables that the reading takes, are together of bulk at most 1048576: NARROWER than '..Said'. Prove '..Said' where nothing that the law and all that it calls make is longer than what came in: it says more and counts as full. Else prove '..UptoSaid'. A law counts once. -/
mutual
def uptoBulk {H : Type} : DataW H → Nat
  | .lit (.string bytes) => bytes.length + 1
  | .lit _ => 1
  | .nil => 1
  | .ptr d => uptoBulk d + 1
  | .slice elems spare => uptoBulkAll elems + uptoBulkAll spare + 1
  | .agg parts => uptoBulkAll parts + 1
  | .iface _ d => uptoBulk d + 1
  | .map entries => uptoBulkEntries entries + 1
  | .held _ => 1
def uptoBulkAll {H : Type} : List (DataW H) → Nat
  | [] => 0
  | d :: r => uptoBulk d + uptoBulkAll r
def uptoBulkEntries {H : Type} : List (Lit × DataW H) → Nat
  | [] => 0
  | x :: r => uptoBulkEntry x + uptoBulkEntries r
def uptoBulkEntry {H : Type} : Lit × DataW H → Nat
  | (.string bytes, d) => bytes.length + uptoBulk d + 1
  | (_, d) => uptoBulk d + 1
 end
def uptoSmall : (H : Type) → List (DataW H) → Bool := fun _ ds => decide (uptoBulkAll ds ≤ 1048576)
def OpenSpec.upto (s : _root_.Go.ChangeSpec) : _root_.Go.OpenSpec := { _root_.Go.OpenSpec.ofChange s with cond := some uptoSmall }

/-- 'skeinlaw15.TreapSeeds', WHERE WHAT IT READS IS OF BULK AT MOST 1048576: true; the input reads as it did. -/
def treapSeedsUptoRow : OpenClaim := { program := "ytnfgibbkfkaonaa", sum := "ca88f6bac07d6387136e1b03c698c965602112b40ff9ef5795ee3c4d7200a44d", func := "skein/skeinlaw15.TreapSeeds", spec := "treapSeeds", unfollowed := true, recurses := true, apart := false, narrowed := true }
def TreapSeedsUptoSaid : Prop := treapSeedsUptoRow.holds Try.pinned (OpenSpec.upto treapSeedsSpec)

/-- 'skeinlaw15.TreapRows', WHERE WHAT IT READS IS OF BULK AT MOST 1048576: true; the input reads as it did. -/
def treapRowsUptoRow : OpenClaim := { program := "ytnfgibbkfkaonaa", sum := "ca88f6bac07d6387136e1b03c698c965602112b40ff9ef5795ee3c4d7200a44d", func := "skein/skeinlaw15.TreapRows", spec := "treapRows", unfollowed := true, recurses := true, apart := false, narrowed := true }
def TreapRowsUptoSaid : Prop := treapRowsUptoRow.holds Try.pinned (OpenSpec.upto treapRowsSpec)

/-- 'skeinlaw15.TreapSums', WHERE WHAT IT READS IS OF BULK AT MOST 1048576: true; the input reads as it did. -/
def treapSumsUptoRow : OpenClaim := { program := "ytnfgibbkfkaonaa", sum := "ca88f6bac07d6387136e1b03c698c965602112b40ff9ef5795ee3c4d7200a44d", func := "skein/skeinlaw15.TreapSums", spec := "treapSums", unfollowed := true, recurses := true, apart := false, narrowed := true }
def TreapSumsUptoSaid : Prop := treapSumsUptoRow.holds Try.pinned (OpenSpec.upto treapSumsSpec)

/-- 'skeinlaw15.TreapSeams', WHERE WHAT IT READS IS OF BULK AT MOST 1048576: true; the input reads as it did. -/
def treapSeamsUptoRow : OpenClaim := { program := "ytnfgibbkfkaonaa", sum := "ca88f6bac07d6387136e1b03c698c965602112b40ff9ef5795ee3c4d7200a44d", func := "skein/skeinlaw15.TreapSeams", spec := "treapSeams", unfollowed := true, recurses := true, apart := false, narrowed := true }
def TreapSeamsUptoSaid : Prop := treapSeamsUptoRow.holds Try.pinned (OpenSpec.upto treapSeamsSpec)

/-- 'skeinlaw15.TreapPlays', WHERE WHAT IT READS IS OF BULK AT MOST 1048576: true; the input reads as it did. -/
def treapPlaysUptoRow : OpenClaim := { program := "ytnfgibbkfkaonaa", sum := "ca88f6bac07d6387136e1b03c698c965602112b40ff9ef5795ee3c4d7200a44d", func := "skein/skeinlaw15.TreapPlays", spec := "treapPlays", unfollowed := true, recurses := true, apart := false, narrowed := true }
def TreapPlaysUptoSaid : Prop := treapPlaysUptoRow.holds Try.pinned (OpenSpec.upto treapPlaysSpec)

end Rows
end Go.Proofs.Ytnfgibbkfkaonaa
