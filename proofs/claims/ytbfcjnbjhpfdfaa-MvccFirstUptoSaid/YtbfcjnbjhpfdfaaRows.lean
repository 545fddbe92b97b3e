/-
  No cell of these rows narrows 'for every input' (looked for: loops, veiled, ifaces, maps, wideKeys, modest, calm, conditions, laid).
  DERIVED. THE GIVEN ROWS OF THIS SEAT. 5 by the template 'for every input the law returns true; each argument reads behind the call as it read before'; 0 by the template 'total and deterministic' (their statements: YtbfcjnbjhpfdfaaTotals.lean).
  GIVEN WITH THE SEED: the statements are not yours to turn. If you find one false, say at which input.
  Laid BY PROGRAM, IN A SANDBOX (cutbox-rows.mjs): the forced cells as the released guide's own fill.sh prints them over the translation e3b4013aa9698172… (all of the seat's roots in one cut). By AI agents, Wed Nov 11 2026. No macro, syntax, notation, axiom, sorry.
-/
import Derived.Test.YtbfcjnbjhpfdfaaChecked
import GoSem.Claim
import GoSem.ClaimJoined
import GoSem.ClaimMapViews
import Derived.JoinedTies
import Derived.KernelRfl
namespace Go.Proofs.Ytbfcjnbjhpfdfaa
/- THE CELL 'sum', in the pinned program and in every row, IS THE sha256 OF THE DUMP (.gsa) THAT YtbfcjnbjhpfdfaaProg.lean LOADS. Nothing in Lean hashes anything: it is a label: what it is worth is what the hold of that sum in a sandbox is worth. -/
noncomputable def Try.pinned : Pinned := { name := "ytbfcjnbjhpfdfaa", sum := "e3b4013aa969817213b9fdc64b49f05d12074d41863e816254db531856b10213", checked := Try.checked }
namespace Rows
def none {H : Type} : Left H := { results := [], args := [] }

/-- 'skeinlaw14.MvccPlays': WHATEVER THE INPUT: true; the input reads as it did. -/
def mvccPlaysSpec : ChangeSpec := { name := "mvccPlays", fn := fun _ => fun
  | [d1, d2] => { results := [.lit (.bool true)], args := [d1, d2] }
  | _ => none }
def mvccPlaysRow : OpenClaim := { program := "ytbfcjnbjhpfdfaa", sum := "e3b4013aa969817213b9fdc64b49f05d12074d41863e816254db531856b10213", func := "skein/skeinlaw14.MvccPlays", spec := "mvccPlays", unfollowed := true, recurses := true, plainKeys := false, apart := false }
def MvccPlaysSaid : Prop := mvccPlaysRow.holds Try.pinned (OpenSpec.ofChange mvccPlaysSpec)

/-- ITS FALSE NEIGHBOUR: 'it returns false'. Refute it at one input. -/
def mvccPlaysWrong : ChangeSpec := { name := "mvccPlays", fn := fun _ => fun
  | [d1, d2] => { results := [.lit (.bool false)], args := [d1, d2] }
  | _ => none }
def MvccPlaysWrongFalsely : Prop := mvccPlaysRow.holds Try.pinned (OpenSpec.ofChange mvccPlaysWrong)

/-- 'skeinlaw14.MvccFirst': WHATEVER THE INPUT: true; the input reads as it did. -/
def mvccFirstSpec : ChangeSpec := { name := "mvccFirst", fn := fun _ => fun
  | [d1, d2] => { results := [.lit (.bool true)], args := [d1, d2] }
  | _ => none }
def mvccFirstRow : OpenClaim := { program := "ytbfcjnbjhpfdfaa", sum := "e3b4013aa969817213b9fdc64b49f05d12074d41863e816254db531856b10213", func := "skein/skeinlaw14.MvccFirst", spec := "mvccFirst", unfollowed := true, recurses := true, plainKeys := false, apart := false }
def MvccFirstSaid : Prop := mvccFirstRow.holds Try.pinned (OpenSpec.ofChange mvccFirstSpec)

/-- ITS FALSE NEIGHBOUR: 'it returns false'. Refute it at one input. -/
def mvccFirstWrong : ChangeSpec := { name := "mvccFirst", fn := fun _ => fun
  | [d1, d2] => { results := [.lit (.bool false)], args := [d1, d2] }
  | _ => none }
def MvccFirstWrongFalsely : Prop := mvccFirstRow.holds Try.pinned (OpenSpec.ofChange mvccFirstWrong)

/-- 'skeinlaw14.MvccAlone': WHATEVER THE INPUT: true; the input reads as it did. -/
def mvccAloneSpec : ChangeSpec := { name := "mvccAlone", fn := fun _ => fun
  | [d1, d2, d3, d4] => { results := [.lit (.bool true)], args := [d1, d2, d3, d4] }
  | _ => none }
def mvccAloneRow : OpenClaim := { program := "ytbfcjnbjhpfdfaa", sum := "e3b4013aa969817213b9fdc64b49f05d12074d41863e816254db531856b10213", func := "skein/skeinlaw14.MvccAlone", spec := "mvccAlone", unfollowed := true, recurses := true, plainKeys := false, apart := false }
def MvccAloneSaid : Prop := mvccAloneRow.holds Try.pinned (OpenSpec.ofChange mvccAloneSpec)

/-- ITS FALSE NEIGHBOUR: 'it returns false'. Refute it at one input. -/
def mvccAloneWrong : ChangeSpec := { name := "mvccAlone", fn := fun _ => fun
  | [d1, d2, d3, d4] => { results := [.lit (.bool false)], args := [d1, d2, d3, d4] }
  | _ => none }
def MvccAloneWrongFalsely : Prop := mvccAloneRow.holds Try.pinned (OpenSpec.ofChange mvccAloneWrong)

/-- 'skeinlaw14.MvccStarts': WHATEVER THE INPUT: true; the input reads as it did. -/
def mvccStartsSpec : ChangeSpec := { name := "mvccStarts", fn := fun _ => fun
  | [d1, d2] => { results := [.lit (.bool true)], args := [d1, d2] }
  | _ => none }
def mvccStartsRow : OpenClaim := { program := "ytbfcjnbjhpfdfaa", sum := "e3b4013aa969817213b9fdc64b49f05d12074d41863e816254db531856b10213", func := "skein/skeinlaw14.MvccStarts", spec := "mvccStarts", unfollowed := true, recurses := true, plainKeys := false, apart := false }
def MvccStartsSaid : Prop := mvccStartsRow.holds Try.pinned (OpenSpec.ofChange mvccStartsSpec)

/-- ITS FALSE NEIGHBOUR: 'it returns false'. Refute it at one input. -/
def mvccStartsWrong : ChangeSpec := { name := "mvccStarts", fn := fun _ => fun
  | [d1, d2] => { results := [.lit (.bool false)], args := [d1, d2] }
  | _ => none }
def MvccStartsWrongFalsely : Prop := mvccStartsRow.holds Try.pinned (OpenSpec.ofChange mvccStartsWrong)

/-- 'skeinlaw14.MvccTry': WHATEVER THE INPUT: true; the input reads as it did. -/
def mvccTrySpec : ChangeSpec := { name := "mvccTry", fn := fun _ => fun
  | [d1, d2] => { results := [.lit (.bool true)], args := [d1, d2] }
  | _ => none }
def mvccTryRow : OpenClaim := { program := "ytbfcjnbjhpfdfaa", sum := "e3b4013aa969817213b9fdc64b49f05d12074d41863e816254db531856b10213", func := "skein/skeinlaw14.MvccTry", spec := "mvccTry", unfollowed := true, recurses := true, plainKeys := false, apart := false }
def MvccTrySaid : Prop := mvccTryRow.holds Try.pinned (OpenSpec.ofChange mvccTrySpec)

/-- ITS FALSE NEIGHBOUR: 'it returns false'. Refute it at one input. -/
def mvccTryWrong : ChangeSpec := { name := "mvccTry", fn := fun _ => fun
  | [d1, d2] => { results := [.lit (.bool false)], args := [d1, d2] }
  | _ => none }
def MvccTryWrongFalsely : Prop := mvccTryRow.holds Try.pinned (OpenSpec.ofChange mvccTryWrong)

/- THE SECOND FORM. 'bulk': how many values and letters a reading holds, each counted each time it is reached (what is shared counts as often as it is met; a slice's spare places count too). A statement '..UptoSaid' is the law's where the arguments, and the package variables that the reading takes, are together of bulk at most 1048576: NARROWER than '..Said'. Prove '..Said' where nothing that the law and all that it calls make is longer than what came in: it says more and counts as full. Else prove '..UptoSaid'. A law counts once. -/
mutual
def uptoBulk {H : Type} : DataW H → Nat
  | .lit (.string bytes) => bytes.length + 1
  | .lit _ => 1
  | .nil => 1
  | .ptr d => uptoBulk d + 1
  | .slice elems spare => uptoBulkAll elems + uptoBulkAll spare + 1
  | .agg parts => uptoBulkAll parts + 1
  | .iface _ d => uptoBulk d + 1
  | .map entries => uptoBulkEntries entries + 1
  | .held _ => 1
def uptoBulkAll {H : Type} : List (DataW H) → Nat
  | [] => 0
  | d :: r => uptoBulk d + uptoBulkAll r
def uptoBulkEntries {H : Type} : List (Lit × DataW H) → Nat
  | [] => 0
  | x :: r => uptoBulkEntry x + uptoBulkEntries r
def uptoBulkEntry {H : Type} : Lit × DataW H → Nat
  | (.string bytes, d) => bytes.length + uptoBulk d + 1
  | (_, d) => uptoBulk d + 1
 end
def uptoSmall : (H : Type) → List (DataW H) → Bool := fun _ ds => decide (uptoBulkAll ds ≤ 1048576)
def OpenSpec.upto (s : _root_.Go.ChangeSpec) : _root_.Go.OpenSpec := { _root_.Go.OpenSpec.ofChange s with cond := some uptoSmall }

/-- 'skeinlaw14.MvccPlays', WHERE WHAT IT READS IS OF BULK AT MOST 1048576: true; the input reads as it did. -/
def mvccPlaysUptoRow : OpenClaim := { program := "ytbfcjnbjhpfdfaa", sum := "e3b4013aa969817213b9fdc64b49f05d12074d41863e816254db531856b10213", func := "skein/skeinlaw14.MvccPlays", spec := "mvccPlays", unfollowed := true, recurses := true, plainKeys := false, apart := false, narrowed := true }
def MvccPlaysUptoSaid : Prop := mvccPlaysUptoRow.holds Try.pinned (OpenSpec.upto mvccPlaysSpec)

/-- 'skeinlaw14.MvccFirst', WHERE WHAT IT READS IS OF BULK AT MOST 1048576: true; the input reads as it did. -/
def mvccFirstUptoRow : OpenClaim := { program := "ytbfcjnbjhpfdfaa", sum := "e3b4013aa969817213b9fdc64b49f05d12074d41863e816254db531856b10213", func := "skein/skeinlaw14.MvccFirst", spec := "mvccFirst", unfollowed := true, recurses := true, plainKeys := false, apart := false, narrowed := true }
def MvccFirstUptoSaid : Prop := mvccFirstUptoRow.holds Try.pinned (OpenSpec.upto mvccFirstSpec)

/-- 'skeinlaw14.MvccAlone', WHERE WHAT IT READS IS OF BULK AT MOST 1048576: true; the input reads as it did. -/
def mvccAloneUptoRow : OpenClaim := { program := "ytbfcjnbjhpfdfaa", sum := "e3b4013aa969817213b9fdc64b49f05d12074d41863e816254db531856b10213", func := "skein/skeinlaw14.MvccAlone", spec := "mvccAlone", unfollowed := true, recurses := true, plainKeys := false, apart := false, narrowed := true }
def MvccAloneUptoSaid : Prop := mvccAloneUptoRow.holds Try.pinned (OpenSpec.upto mvccAloneSpec)

/-- 'skeinlaw14.MvccStarts', WHERE WHAT IT READS IS OF BULK AT MOST 1048576: true; the input reads as it did. -/
def mvccStartsUptoRow : OpenClaim := { program := "ytbfcjnbjhpfdfaa", sum := "e3b4013aa969817213b9fdc64b49f05d12074d41863e816254db531856b10213", func := "skein/skeinlaw14.MvccStarts", spec := "mvccStarts", unfollowed := true, recurses := true, plainKeys := false, apart := false, narrowed := true }
def MvccStartsUptoSaid : Prop := mvccStartsUptoRow.holds Try.pinned (OpenSpec.upto mvccStartsSpec)

/-- 'skeinlaw14.MvccTry', WHERE WHAT IT READS IS OF BULK AT MOST 1048576: true; the input reads as it did. -/
def mvccTryUptoRow : OpenClaim := { program := "ytbfcjnbjhpfdfaa", sum := "e3b4013aa969817213b9fdc64b49f05d12074d41863e816254db531856b10213", func := "skein/skeinlaw14.MvccTry", spec := "mvccTry", unfollowed := true, recurses := true, plainKeys := false, apart := false, narrowed := true }
def MvccTryUptoSaid : Prop := mvccTryUptoRow.holds Try.pinned (OpenSpec.upto mvccTrySpec)

end Rows
end Go.Proofs.Ytbfcjnbjhpfdfaa
