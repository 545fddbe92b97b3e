/-
  No cell of these rows narrows 'for every input' (looked for: loops, veiled, ifaces, maps, wideKeys, modest, calm, conditions, laid).
  DERIVED. THE GIVEN ROWS OF THIS SEAT. 4 by the template 'for every input the law returns true; each argument reads behind the call as it read before'; 0 by the template 'total and deterministic' (their statements: YtklnlnjgaadjbaaTotals.lean).
  GIVEN WITH THE SEED: the statements are not yours to turn. If you find one false, say at which input.
  Laid BY PROGRAM, IN A SANDBOX (cutbox-rows.mjs): the forced cells as the released guide's own fill.sh prints them over the translation 0c41246688a04db5… (all of the seat's roots in one cut). By AI agents, Wed Nov 11 2026. No macro, syntax, notation, axiom, sorry.
-/
import Derived.Test.YtklnlnjgaadjbaaChecked
import GoSem.Claim
import GoSem.ClaimJoined
import GoSem.ClaimMapViews
import Derived.JoinedTies
import Derived.KernelRfl
namespace Go.Proofs.Ytklnlnjgaadjbaa
/- THE CELL 'sum', in the pinned program and in every row, IS THE sha256 OF THE DUMP (.gsa) THAT YtklnlnjgaadjbaaProg.lean LOADS. Nothing in Lean hashes anything: it is a label: what it is worth is what the hold of that sum in a sandbox is worth. -/
noncomputable def Try.pinned : Pinned := { name := "ytklnlnjgaadjbaa", sum := "0c41246688a04db5463d50e697ed032688affd904d5920e27f4e5127854db0b8", checked := Try.checked }
namespace Rows
def none {H : Type} : Left H := { results := [], args := [] }

/-- 'skeinlaw20.SpanPlays': WHATEVER THE INPUT: true; the input reads as it did. -/
def spanPlaysSpec : ChangeSpec := { name := "spanPlays", fn := fun _ => fun
  | [d1, d2] => { results := [.lit (.bool true)], args := [d1, d2] }
  | _ => none }
def spanPlaysRow : OpenClaim := { program := "ytklnlnjgaadjbaa", sum := "0c41246688a04db5463d50e697ed032688affd904d5920e27f4e5127854db0b8", func := "skein/skeinlaw20.SpanPlays", spec := "spanPlays", unfollowed := true, recurses := true, apart := false }
def SpanPlaysSaid : Prop := spanPlaysRow.holds Try.pinned (OpenSpec.ofChange spanPlaysSpec)

/-- ITS FALSE NEIGHBOUR: 'it returns false'. Refute it at one input. -/
def spanPlaysWrong : ChangeSpec := { name := "spanPlays", fn := fun _ => fun
  | [d1, d2] => { results := [.lit (.bool false)], args := [d1, d2] }
  | _ => none }
def SpanPlaysWrongFalsely : Prop := spanPlaysRow.holds Try.pinned (OpenSpec.ofChange spanPlaysWrong)

/-- 'skeinlaw20.SpanLinks': WHATEVER THE INPUT: true; the input reads as it did. -/
def spanLinksSpec : ChangeSpec := { name := "spanLinks", fn := fun _ => fun
  | [d1, d2, d3] => { results := [.lit (.bool true)], args := [d1, d2, d3] }
  | _ => none }
def spanLinksRow : OpenClaim := { program := "ytklnlnjgaadjbaa", sum := "0c41246688a04db5463d50e697ed032688affd904d5920e27f4e5127854db0b8", func := "skein/skeinlaw20.SpanLinks", spec := "spanLinks", unfollowed := true, recurses := true, apart := false }
def SpanLinksSaid : Prop := spanLinksRow.holds Try.pinned (OpenSpec.ofChange spanLinksSpec)

/-- ITS FALSE NEIGHBOUR: 'it returns false'. Refute it at one input. -/
def spanLinksWrong : ChangeSpec := { name := "spanLinks", fn := fun _ => fun
  | [d1, d2, d3] => { results := [.lit (.bool false)], args := [d1, d2, d3] }
  | _ => none }
def SpanLinksWrongFalsely : Prop := spanLinksRow.holds Try.pinned (OpenSpec.ofChange spanLinksWrong)

/-- 'skeinlaw20.SpanFar': WHATEVER THE INPUT: true; the input reads as it did. -/
def spanFarSpec : ChangeSpec := { name := "spanFar", fn := fun _ => fun
  | [d1, d2, d3] => { results := [.lit (.bool true)], args := [d1, d2, d3] }
  | _ => none }
def spanFarRow : OpenClaim := { program := "ytklnlnjgaadjbaa", sum := "0c41246688a04db5463d50e697ed032688affd904d5920e27f4e5127854db0b8", func := "skein/skeinlaw20.SpanFar", spec := "spanFar", unfollowed := true, recurses := true, apart := false }
def SpanFarSaid : Prop := spanFarRow.holds Try.pinned (OpenSpec.ofChange spanFarSpec)

/-- ITS FALSE NEIGHBOUR: 'it returns false'. Refute it at one input. -/
def spanFarWrong : ChangeSpec := { name := "spanFar", fn := fun _ => fun
  | [d1, d2, d3] => { results := [.lit (.bool false)], args := [d1, d2, d3] }
  | _ => none }
def SpanFarWrongFalsely : Prop := spanFarRow.holds Try.pinned (OpenSpec.ofChange spanFarWrong)

/-- 'skeinlaw20.SpanOrder': WHATEVER THE INPUT: true; the input reads as it did. -/
def spanOrderSpec : ChangeSpec := { name := "spanOrder", fn := fun _ => fun
  | [d1, d2, d3] => { results := [.lit (.bool true)], args := [d1, d2, d3] }
  | _ => none }
def spanOrderRow : OpenClaim := { program := "ytklnlnjgaadjbaa", sum := "0c41246688a04db5463d50e697ed032688affd904d5920e27f4e5127854db0b8", func := "skein/skeinlaw20.SpanOrder", spec := "spanOrder", unfollowed := true, recurses := true, apart := false }
def SpanOrderSaid : Prop := spanOrderRow.holds Try.pinned (OpenSpec.ofChange spanOrderSpec)

/-- ITS FALSE NEIGHBOUR: 'it returns false'. Refute it at one input. -/
def spanOrderWrong : ChangeSpec := { name := "spanOrder", fn := fun _ => fun
  | [d1, d2, d3] => { results := [.lit (.bool false)], args := [d1, d2, d3] }
  | _ => none }
def SpanOrderWrongFalsely : Prop := spanOrderRow.holds Try.pinned (OpenSpec.ofChange spanOrderWrong)

/- THE SECOND FORM. 'bulk': how many values and letters a reading holds, each counted each time it is reached (what is shared counts as often as it is met; a slice's spare places count too). A statement '..UptoSaid' is the law's where the arguments, and the package variables that the reading takes, are together of bulk at most 1048576: NARROWER than '..Said'. Prove '..Said' where nothing that the law and all that it calls make is longer than what came in: it says more and counts as full. Else prove '..UptoSaid'. A law counts once. -/
mutual
def uptoBulk {H : Type} : DataW H → Nat
  | .lit (.string bytes) => bytes.length + 1
  | .lit _ => 1
  | .nil => 1
  | .ptr d => uptoBulk d + 1
  | .slice elems spare => uptoBulkAll elems + uptoBulkAll spare + 1
  | .agg parts => uptoBulkAll parts + 1
  | .iface _ d => uptoBulk d + 1
  | .map entries => uptoBulkEntries entries + 1
  | .held _ => 1
def uptoBulkAll {H : Type} : List (DataW H) → Nat
  | [] => 0
  | d :: r => uptoBulk d + uptoBulkAll r
def uptoBulkEntries {H : Type} : List (Lit × DataW H) → Nat
  | [] => 0
  | x :: r => uptoBulkEntry x + uptoBulkEntries r
def uptoBulkEntry {H : Type} : Lit × DataW H → Nat
  | (.string bytes, d) => bytes.length + uptoBulk d + 1
  | (_, d) => uptoBulk d + 1
 end
def uptoSmall : (H : Type) → List (DataW H) → Bool := fun _ ds => decide (uptoBulkAll ds ≤ 1048576)
def OpenSpec.upto (s : _root_.Go.ChangeSpec) : _root_.Go.OpenSpec := { _root_.Go.OpenSpec.ofChange s with cond := some uptoSmall }

/-- 'skeinlaw20.SpanPlays', WHERE WHAT IT READS IS OF BULK AT MOST 1048576: true; the input reads as it did. -/
def spanPlaysUptoRow : OpenClaim := { program := "ytklnlnjgaadjbaa", sum := "0c41246688a04db5463d50e697ed032688affd904d5920e27f4e5127854db0b8", func := "skein/skeinlaw20.SpanPlays", spec := "spanPlays", unfollowed := true, recurses := true, apart := false, narrowed := true }
def SpanPlaysUptoSaid : Prop := spanPlaysUptoRow.holds Try.pinned (OpenSpec.upto spanPlaysSpec)

/-- 'skeinlaw20.SpanLinks', WHERE WHAT IT READS IS OF BULK AT MOST 1048576: true; the input reads as it did. -/
def spanLinksUptoRow : OpenClaim := { program := "ytklnlnjgaadjbaa", sum := "0c41246688a04db5463d50e697ed032688affd904d5920e27f4e5127854db0b8", func := "skein/skeinlaw20.SpanLinks", spec := "spanLinks", unfollowed := true, recurses := true, apart := false, narrowed := true }
def SpanLinksUptoSaid : Prop := spanLinksUptoRow.holds Try.pinned (OpenSpec.upto spanLinksSpec)

/-- 'skeinlaw20.SpanFar', WHERE WHAT IT READS IS OF BULK AT MOST 1048576: true; the input reads as it did. -/
def spanFarUptoRow : OpenClaim := { program := "ytklnlnjgaadjbaa", sum := "0c41246688a04db5463d50e697ed032688affd904d5920e27f4e5127854db0b8", func := "skein/skeinlaw20.SpanFar", spec := "spanFar", unfollowed := true, recurses := true, apart := false, narrowed := true }
def SpanFarUptoSaid : Prop := spanFarUptoRow.holds Try.pinned (OpenSpec.upto spanFarSpec)

/-- 'skeinlaw20.SpanOrder', WHERE WHAT IT READS IS OF BULK AT MOST 1048576: true; the input reads as it did. -/
def spanOrderUptoRow : OpenClaim := { program := "ytklnlnjgaadjbaa", sum := "0c41246688a04db5463d50e697ed032688affd904d5920e27f4e5127854db0b8", func := "skein/skeinlaw20.SpanOrder", spec := "spanOrder", unfollowed := true, recurses := true, apart := false, narrowed := true }
def SpanOrderUptoSaid : Prop := spanOrderUptoRow.holds Try.pinned (OpenSpec.upto spanOrderSpec)

end Rows
end Go.Proofs.Ytklnlnjgaadjbaa
