/-
  No cell of these rows narrows 'for every input' (looked for: loops, veiled, ifaces, maps, wideKeys, modest, calm, conditions, laid).
  DERIVED. THE GIVEN ROWS OF THIS SEAT. 5 by the template 'for every input the law returns true; each argument reads behind the call as it read before'; 0 by the template 'total and deterministic' (their statements: YtkkobfajahmfaaaTotals.lean).
  GIVEN WITH THE SEED: the statements are not yours to turn. If you find one false, say at which input.
  Laid BY PROGRAM, IN A SANDBOX (cutbox-rows.mjs): the forced cells as the released guide's own fill.sh prints them over the translation 3ef02763cbf83f94… (all of the seat's roots in one cut). By AI agents, Wed Nov 11 2026. No macro, syntax, notation, axiom, sorry.
-/
import Derived.Test.YtkkobfajahmfaaaChecked
import GoSem.Claim
import GoSem.ClaimJoined
import GoSem.ClaimMapViews
import Derived.JoinedTies
import Derived.KernelRfl
namespace Go.Proofs.Ytkkobfajahmfaaa
/- THE CELL 'sum', in the pinned program and in every row, IS THE sha256 OF THE DUMP (.gsa) THAT YtkkobfajahmfaaaProg.lean LOADS. Nothing in Lean hashes anything: it is a label: what it is worth is what the hold of that sum in a sandbox is worth. -/
noncomputable def Try.pinned : Pinned := { name := "ytkkobfajahmfaaa", sum := "3ef02763cbf83f94144918c7a0f0f22eb44516ef1a95e51fbe690b05e9a58290", checked := Try.checked }
namespace Rows
def none {H : Type} : Left H := { results := [], args := [] }

/-- 'skeinlaw16.EulerBack': WHATEVER THE INPUT: true; the input reads as it did. -/
def eulerBackSpec : ChangeSpec := { name := "eulerBack", fn := fun _ => fun
  | [d1, d2, d3, d4, d5, d6] => { results := [.lit (.bool true)], args := [d1, d2, d3, d4, d5, d6] }
  | _ => none }
def eulerBackRow : OpenClaim := { program := "ytkkobfajahmfaaa", sum := "3ef02763cbf83f94144918c7a0f0f22eb44516ef1a95e51fbe690b05e9a58290", func := "skein/skeinlaw16.EulerBack", spec := "eulerBack", unfollowed := true, recurses := true, apart := false }
def EulerBackSaid : Prop := eulerBackRow.holds Try.pinned (OpenSpec.ofChange eulerBackSpec)

/-- ITS FALSE NEIGHBOUR: 'it returns false'. Refute it at one input. -/
def eulerBackWrong : ChangeSpec := { name := "eulerBack", fn := fun _ => fun
  | [d1, d2, d3, d4, d5, d6] => { results := [.lit (.bool false)], args := [d1, d2, d3, d4, d5, d6] }
  | _ => none }
def EulerBackWrongFalsely : Prop := eulerBackRow.holds Try.pinned (OpenSpec.ofChange eulerBackWrong)

/-- 'skeinlaw16.EulerOrder': WHATEVER THE INPUT: true; the input reads as it did. -/
def eulerOrderSpec : ChangeSpec := { name := "eulerOrder", fn := fun _ => fun
  | [d1, d2, d3] => { results := [.lit (.bool true)], args := [d1, d2, d3] }
  | _ => none }
def eulerOrderRow : OpenClaim := { program := "ytkkobfajahmfaaa", sum := "3ef02763cbf83f94144918c7a0f0f22eb44516ef1a95e51fbe690b05e9a58290", func := "skein/skeinlaw16.EulerOrder", spec := "eulerOrder", unfollowed := true, recurses := true, apart := false }
def EulerOrderSaid : Prop := eulerOrderRow.holds Try.pinned (OpenSpec.ofChange eulerOrderSpec)

/-- ITS FALSE NEIGHBOUR: 'it returns false'. Refute it at one input. -/
def eulerOrderWrong : ChangeSpec := { name := "eulerOrder", fn := fun _ => fun
  | [d1, d2, d3] => { results := [.lit (.bool false)], args := [d1, d2, d3] }
  | _ => none }
def EulerOrderWrongFalsely : Prop := eulerOrderRow.holds Try.pinned (OpenSpec.ofChange eulerOrderWrong)

/-- 'skeinlaw16.EulerPlays': WHATEVER THE INPUT: true; the input reads as it did. -/
def eulerPlaysSpec : ChangeSpec := { name := "eulerPlays", fn := fun _ => fun
  | [d1, d2] => { results := [.lit (.bool true)], args := [d1, d2] }
  | _ => none }
def eulerPlaysRow : OpenClaim := { program := "ytkkobfajahmfaaa", sum := "3ef02763cbf83f94144918c7a0f0f22eb44516ef1a95e51fbe690b05e9a58290", func := "skein/skeinlaw16.EulerPlays", spec := "eulerPlays", unfollowed := true, recurses := true, apart := false }
def EulerPlaysSaid : Prop := eulerPlaysRow.holds Try.pinned (OpenSpec.ofChange eulerPlaysSpec)

/-- ITS FALSE NEIGHBOUR: 'it returns false'. Refute it at one input. -/
def eulerPlaysWrong : ChangeSpec := { name := "eulerPlays", fn := fun _ => fun
  | [d1, d2] => { results := [.lit (.bool false)], args := [d1, d2] }
  | _ => none }
def EulerPlaysWrongFalsely : Prop := eulerPlaysRow.holds Try.pinned (OpenSpec.ofChange eulerPlaysWrong)

/-- 'skeinlaw16.EulerTrees': WHATEVER THE INPUT: true; the input reads as it did. -/
def eulerTreesSpec : ChangeSpec := { name := "eulerTrees", fn := fun _ => fun
  | [d1, d2, d3] => { results := [.lit (.bool true)], args := [d1, d2, d3] }
  | _ => none }
def eulerTreesRow : OpenClaim := { program := "ytkkobfajahmfaaa", sum := "3ef02763cbf83f94144918c7a0f0f22eb44516ef1a95e51fbe690b05e9a58290", func := "skein/skeinlaw16.EulerTrees", spec := "eulerTrees", unfollowed := true, recurses := true, apart := false }
def EulerTreesSaid : Prop := eulerTreesRow.holds Try.pinned (OpenSpec.ofChange eulerTreesSpec)

/-- ITS FALSE NEIGHBOUR: 'it returns false'. Refute it at one input. -/
def eulerTreesWrong : ChangeSpec := { name := "eulerTrees", fn := fun _ => fun
  | [d1, d2, d3] => { results := [.lit (.bool false)], args := [d1, d2, d3] }
  | _ => none }
def EulerTreesWrongFalsely : Prop := eulerTreesRow.holds Try.pinned (OpenSpec.ofChange eulerTreesWrong)

/-- 'skeinlaw16.EulerMarks': WHATEVER THE INPUT: true; the input reads as it did. -/
def eulerMarksSpec : ChangeSpec := { name := "eulerMarks", fn := fun _ => fun
  | [d1, d2, d3] => { results := [.lit (.bool true)], args := [d1, d2, d3] }
  | _ => none }
def eulerMarksRow : OpenClaim := { program := "ytkkobfajahmfaaa", sum := "3ef02763cbf83f94144918c7a0f0f22eb44516ef1a95e51fbe690b05e9a58290", func := "skein/skeinlaw16.EulerMarks", spec := "eulerMarks", unfollowed := true, recurses := true, apart := false }
def EulerMarksSaid : Prop := eulerMarksRow.holds Try.pinned (OpenSpec.ofChange eulerMarksSpec)

/-- ITS FALSE NEIGHBOUR: 'it returns false'. Refute it at one input. -/
def eulerMarksWrong : ChangeSpec := { name := "eulerMarks", fn := fun _ => fun
  | [d1, d2, d3] => { results := [.lit (.bool false)], args := [d1, d2, d3] }
  | _ => none }
def EulerMarksWrongFalsely : Prop := eulerMarksRow.holds Try.pinned (OpenSpec.ofChange eulerMarksWrong)

/- THE SECOND FORM. 'bulk': how many values and letters a reading holds, each counted each time it is reached (what is shared counts as often as it is met; a slice's spare places count too). A statement '..UptoSaid' is the law's where the arguments, and the package variables that the reading takes, are together of bulk at most 1048576: NARROWER than '..Said'. Prove '..Said' where nothing that the law and all that it calls make is longer than what came in: it says more and counts as full. Else prove '..UptoSaid'. A law counts once. -/
mutual
def uptoBulk {H : Type} : DataW H → Nat
  | .lit (.string bytes) => bytes.length + 1
  | .lit _ => 1
  | .nil => 1
  | .ptr d => uptoBulk d + 1
  | .slice elems spare => uptoBulkAll elems + uptoBulkAll spare + 1
  | .agg parts => uptoBulkAll parts + 1
  | .iface _ d => uptoBulk d + 1
  | .map entries => uptoBulkEntries entries + 1
  | .held _ => 1
def uptoBulkAll {H : Type} : List (DataW H) → Nat
  | [] => 0
  | d :: r => uptoBulk d + uptoBulkAll r
def uptoBulkEntries {H : Type} : List (Lit × DataW H) → Nat
  | [] => 0
  | x :: r => uptoBulkEntry x + uptoBulkEntries r
def uptoBulkEntry {H : Type} : Lit × DataW H → Nat
  | (.string bytes, d) => bytes.length + uptoBulk d + 1
  | (_, d) => uptoBulk d + 1
 end
def uptoSmall : (H : Type) → List (DataW H) → Bool := fun _ ds => decide (uptoBulkAll ds ≤ 1048576)
def OpenSpec.upto (s : _root_.Go.ChangeSpec) : _root_.Go.OpenSpec := { _root_.Go.OpenSpec.ofChange s with cond := some uptoSmall }

/-- 'skeinlaw16.EulerBack', WHERE WHAT IT READS IS OF BULK AT MOST 1048576: true; the input reads as it did. -/
def eulerBackUptoRow : OpenClaim := { program := "ytkkobfajahmfaaa", sum := "3ef02763cbf83f94144918c7a0f0f22eb44516ef1a95e51fbe690b05e9a58290", func := "skein/skeinlaw16.EulerBack", spec := "eulerBack", unfollowed := true, recurses := true, apart := false, narrowed := true }
def EulerBackUptoSaid : Prop := eulerBackUptoRow.holds Try.pinned (OpenSpec.upto eulerBackSpec)

/-- 'skeinlaw16.EulerOrder', WHERE WHAT IT READS IS OF BULK AT MOST 1048576: true; the input reads as it did. -/
def eulerOrderUptoRow : OpenClaim := { program := "ytkkobfajahmfaaa", sum := "3ef02763cbf83f94144918c7a0f0f22eb44516ef1a95e51fbe690b05e9a58290", func := "skein/skeinlaw16.EulerOrder", spec := "eulerOrder", unfollowed := true, recurses := true, apart := false, narrowed := true }
def EulerOrderUptoSaid : Prop := eulerOrderUptoRow.holds Try.pinned (OpenSpec.upto eulerOrderSpec)

/-- 'skeinlaw16.EulerPlays', WHERE WHAT IT READS IS OF BULK AT MOST 1048576: true; the input reads as it did. -/
def eulerPlaysUptoRow : OpenClaim := { program := "ytkkobfajahmfaaa", sum := "3ef02763cbf83f94144918c7a0f0f22eb44516ef1a95e51fbe690b05e9a58290", func := "skein/skeinlaw16.EulerPlays", spec := "eulerPlays", unfollowed := true, recurses := true, apart := false, narrowed := true }
def EulerPlaysUptoSaid : Prop := eulerPlaysUptoRow.holds Try.pinned (OpenSpec.upto eulerPlaysSpec)

/-- 'skeinlaw16.EulerTrees', WHERE WHAT IT READS IS OF BULK AT MOST 1048576: true; the input reads as it did. -/
def eulerTreesUptoRow : OpenClaim := { program := "ytkkobfajahmfaaa", sum := "3ef02763cbf83f94144918c7a0f0f22eb44516ef1a95e51fbe690b05e9a58290", func := "skein/skeinlaw16.EulerTrees", spec := "eulerTrees", unfollowed := true, recurses := true, apart := false, narrowed := true }
def EulerTreesUptoSaid : Prop := eulerTreesUptoRow.holds Try.pinned (OpenSpec.upto eulerTreesSpec)

/-- 'skeinlaw16.EulerMarks', WHERE WHAT IT READS IS OF BULK AT MOST 1048576: true; the input reads as it did. -/
def eulerMarksUptoRow : OpenClaim := { program := "ytkkobfajahmfaaa", sum := "3ef02763cbf83f94144918c7a0f0f22eb44516ef1a95e51fbe690b05e9a58290", func := "skein/skeinlaw16.EulerMarks", spec := "eulerMarks", unfollowed := true, recurses := true, apart := false, narrowed := true }
def EulerMarksUptoSaid : Prop := eulerMarksUptoRow.holds Try.pinned (OpenSpec.upto eulerMarksSpec)

end Rows
end Go.Proofs.Ytkkobfajahmfaaa
