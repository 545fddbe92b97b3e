/-
  No cell of these rows narrows 'for every input' (looked for: loops, veiled, ifaces, maps, wideKeys, modest, calm, conditions, laid).
  DERIVED. THE GIVEN ROWS OF THIS SEAT. 5 by the template 'for every input the law returns true; each argument reads behind the call as it read before'; 0 by the template 'total and deterministic' (their statements: YtfknppccgojhdaaTotals.lean).
  GIVEN WITH THE SEED: the statements are not yours to turn. If you find one false, say at which input.
  Laid BY PROGRAM, IN A SANDBOX (cutbox-rows.mjs): the forced cells as the released guide's own fill.sh prints them over the translation dcb8127be944c4d2… (all of the seat's roots in one cut). By AI agents, Wed Nov 11 2026. No macro, syntax, notation, axiom, sorry.
-/
import Derived.Test.YtfknppccgojhdaaChecked
import GoSem.Claim
import GoSem.ClaimJoined
import GoSem.ClaimMapViews
import Derived.JoinedTies
import Derived.KernelRfl
namespace Go.Proofs.Ytfknppccgojhdaa
/- THE CELL 'sum', in the pinned program and in every row, IS THE sha256 OF THE DUMP (.gsa) THAT YtfknppccgojhdaaProg.lean LOADS. Nothing in Lean hashes anything: it is a label: what it is worth is what the hold of that sum in a sandbox is worth. -/
noncomputable def Try.pinned : Pinned := { name := "ytfknppccgojhdaa", sum := "dcb8127be944c4d28b363d0653541992bac5653d50524af612c3d806b8889030", checked := Try.checked }
namespace Rows
def none {H : Type} : Left H := { results := [], args := [] }

/-- 'skeinlaw17.LinkcutPlays': WHATEVER THE INPUT: true; the input reads as it did. -/
def linkcutPlaysSpec : ChangeSpec := { name := "linkcutPlays", fn := fun _ => fun
  | [d] => { results := [.lit (.bool true)], args := [d] }
  | _ => none }
def linkcutPlaysRow : OpenClaim := { program := "ytfknppccgojhdaa", sum := "dcb8127be944c4d28b363d0653541992bac5653d50524af612c3d806b8889030", func := "skein/skeinlaw17.LinkcutPlays", spec := "linkcutPlays", apart := false }
def LinkcutPlaysSaid : Prop := linkcutPlaysRow.holds Try.pinned (OpenSpec.ofChange linkcutPlaysSpec)

/-- ITS FALSE NEIGHBOUR: 'it returns false'. Refute it at one input. -/
def linkcutPlaysWrong : ChangeSpec := { name := "linkcutPlays", fn := fun _ => fun
  | [d] => { results := [.lit (.bool false)], args := [d] }
  | _ => none }
def LinkcutPlaysWrongFalsely : Prop := linkcutPlaysRow.holds Try.pinned (OpenSpec.ofChange linkcutPlaysWrong)

/-- 'skeinlaw17.LinkcutPaths': WHATEVER THE INPUT: true; the input reads as it did. -/
def linkcutPathsSpec : ChangeSpec := { name := "linkcutPaths", fn := fun _ => fun
  | [d1, d2, d3, d4] => { results := [.lit (.bool true)], args := [d1, d2, d3, d4] }
  | _ => none }
def linkcutPathsRow : OpenClaim := { program := "ytfknppccgojhdaa", sum := "dcb8127be944c4d28b363d0653541992bac5653d50524af612c3d806b8889030", func := "skein/skeinlaw17.LinkcutPaths", spec := "linkcutPaths", apart := false }
def LinkcutPathsSaid : Prop := linkcutPathsRow.holds Try.pinned (OpenSpec.ofChange linkcutPathsSpec)

/-- ITS FALSE NEIGHBOUR: 'it returns false'. Refute it at one input. -/
def linkcutPathsWrong : ChangeSpec := { name := "linkcutPaths", fn := fun _ => fun
  | [d1, d2, d3, d4] => { results := [.lit (.bool false)], args := [d1, d2, d3, d4] }
  | _ => none }
def LinkcutPathsWrongFalsely : Prop := linkcutPathsRow.holds Try.pinned (OpenSpec.ofChange linkcutPathsWrong)

/-- 'skeinlaw17.LinkcutBack': WHATEVER THE INPUT: true; the input reads as it did. -/
def linkcutBackSpec : ChangeSpec := { name := "linkcutBack", fn := fun _ => fun
  | [d1, d2, d3, d4] => { results := [.lit (.bool true)], args := [d1, d2, d3, d4] }
  | _ => none }
def linkcutBackRow : OpenClaim := { program := "ytfknppccgojhdaa", sum := "dcb8127be944c4d28b363d0653541992bac5653d50524af612c3d806b8889030", func := "skein/skeinlaw17.LinkcutBack", spec := "linkcutBack", apart := false }
def LinkcutBackSaid : Prop := linkcutBackRow.holds Try.pinned (OpenSpec.ofChange linkcutBackSpec)

/-- ITS FALSE NEIGHBOUR: 'it returns false'. Refute it at one input. -/
def linkcutBackWrong : ChangeSpec := { name := "linkcutBack", fn := fun _ => fun
  | [d1, d2, d3, d4] => { results := [.lit (.bool false)], args := [d1, d2, d3, d4] }
  | _ => none }
def LinkcutBackWrongFalsely : Prop := linkcutBackRow.holds Try.pinned (OpenSpec.ofChange linkcutBackWrong)

/-- 'skeinlaw17.LinkcutOrder': WHATEVER THE INPUT: true; the input reads as it did. -/
def linkcutOrderSpec : ChangeSpec := { name := "linkcutOrder", fn := fun _ => fun
  | [d1, d2, d3] => { results := [.lit (.bool true)], args := [d1, d2, d3] }
  | _ => none }
def linkcutOrderRow : OpenClaim := { program := "ytfknppccgojhdaa", sum := "dcb8127be944c4d28b363d0653541992bac5653d50524af612c3d806b8889030", func := "skein/skeinlaw17.LinkcutOrder", spec := "linkcutOrder", apart := false }
def LinkcutOrderSaid : Prop := linkcutOrderRow.holds Try.pinned (OpenSpec.ofChange linkcutOrderSpec)

/-- ITS FALSE NEIGHBOUR: 'it returns false'. Refute it at one input. -/
def linkcutOrderWrong : ChangeSpec := { name := "linkcutOrder", fn := fun _ => fun
  | [d1, d2, d3] => { results := [.lit (.bool false)], args := [d1, d2, d3] }
  | _ => none }
def LinkcutOrderWrongFalsely : Prop := linkcutOrderRow.holds Try.pinned (OpenSpec.ofChange linkcutOrderWrong)

/-- 'skeinlaw17.LinkcutWeights': WHATEVER THE INPUT: true; the input reads as it did. -/
def linkcutWeightsSpec : ChangeSpec := { name := "linkcutWeights", fn := fun _ => fun
  | [d1, d2, d3, d4, d5] => { results := [.lit (.bool true)], args := [d1, d2, d3, d4, d5] }
  | _ => none }
def linkcutWeightsRow : OpenClaim := { program := "ytfknppccgojhdaa", sum := "dcb8127be944c4d28b363d0653541992bac5653d50524af612c3d806b8889030", func := "skein/skeinlaw17.LinkcutWeights", spec := "linkcutWeights", apart := false }
def LinkcutWeightsSaid : Prop := linkcutWeightsRow.holds Try.pinned (OpenSpec.ofChange linkcutWeightsSpec)

/-- ITS FALSE NEIGHBOUR: 'it returns false'. Refute it at one input. -/
def linkcutWeightsWrong : ChangeSpec := { name := "linkcutWeights", fn := fun _ => fun
  | [d1, d2, d3, d4, d5] => { results := [.lit (.bool false)], args := [d1, d2, d3, d4, d5] }
  | _ => none }
def LinkcutWeightsWrongFalsely : Prop := linkcutWeightsRow.holds Try.pinned (OpenSpec.ofChange linkcutWeightsWrong)

/- THE SECOND FORM. 'bulk': how many values and letters a reading holds, each counted each time it is reached (what is shared counts as often as it is met; a slice's spare places count too). A statement '..UptoSaid' is the law's where the arguments, and the package variables that the reading takes, are together of bulk at most 1048576: NARROWER than '..Said'. Prove '..Said' where nothing that the law and all that it calls make is longer than what came in: it says more and counts as full. Else prove '..UptoSaid'. A law counts once. -/
mutual
def uptoBulk {H : Type} : DataW H → Nat
  | .lit (.string bytes) => bytes.length + 1
  | .lit _ => 1
  | .nil => 1
  | .ptr d => uptoBulk d + 1
  | .slice elems spare => uptoBulkAll elems + uptoBulkAll spare + 1
  | .agg parts => uptoBulkAll parts + 1
  | .iface _ d => uptoBulk d + 1
  | .map entries => uptoBulkEntries entries + 1
  | .held _ => 1
def uptoBulkAll {H : Type} : List (DataW H) → Nat
  | [] => 0
  | d :: r => uptoBulk d + uptoBulkAll r
def uptoBulkEntries {H : Type} : List (Lit × DataW H) → Nat
  | [] => 0
  | x :: r => uptoBulkEntry x + uptoBulkEntries r
def uptoBulkEntry {H : Type} : Lit × DataW H → Nat
  | (.string bytes, d) => bytes.length + uptoBulk d + 1
  | (_, d) => uptoBulk d + 1
 end
def uptoSmall : (H : Type) → List (DataW H) → Bool := fun _ ds => decide (uptoBulkAll ds ≤ 1048576)
def OpenSpec.upto (s : _root_.Go.ChangeSpec) : _root_.Go.OpenSpec := { _root_.Go.OpenSpec.ofChange s with cond := some uptoSmall }

/-- 'skeinlaw17.LinkcutPlays', WHERE WHAT IT READS IS OF BULK AT MOST 1048576: true; the input reads as it did. -/
def linkcutPlaysUptoRow : OpenClaim := { program := "ytfknppccgojhdaa", sum := "dcb8127be944c4d28b363d0653541992bac5653d50524af612c3d806b8889030", func := "skein/skeinlaw17.LinkcutPlays", spec := "linkcutPlays", apart := false, narrowed := true }
def LinkcutPlaysUptoSaid : Prop := linkcutPlaysUptoRow.holds Try.pinned (OpenSpec.upto linkcutPlaysSpec)

/-- 'skeinlaw17.LinkcutPaths', WHERE WHAT IT READS IS OF BULK AT MOST 1048576: true; the input reads as it did. -/
def linkcutPathsUptoRow : OpenClaim := { program := "ytfknppccgojhdaa", sum := "dcb8127be944c4d28b363d0653541992bac5653d50524af612c3d806b8889030", func := "skein/skeinlaw17.LinkcutPaths", spec := "linkcutPaths", apart := false, narrowed := true }
def LinkcutPathsUptoSaid : Prop := linkcutPathsUptoRow.holds Try.pinned (OpenSpec.upto linkcutPathsSpec)

/-- 'skeinlaw17.LinkcutBack', WHERE WHAT IT READS IS OF BULK AT MOST 1048576: true; the input reads as it did. -/
def linkcutBackUptoRow : OpenClaim := { program := "ytfknppccgojhdaa", sum := "dcb8127be944c4d28b363d0653541992bac5653d50524af612c3d806b8889030", func := "skein/skeinlaw17.LinkcutBack", spec := "linkcutBack", apart := false, narrowed := true }
def LinkcutBackUptoSaid : Prop := linkcutBackUptoRow.holds Try.pinned (OpenSpec.upto linkcutBackSpec)

/-- 'skeinlaw17.LinkcutOrder', WHERE WHAT IT READS IS OF BULK AT MOST 1048576: true; the input reads as it did. -/
def linkcutOrderUptoRow : OpenClaim := { program := "ytfknppccgojhdaa", sum := "dcb8127be944c4d28b363d0653541992bac5653d50524af612c3d806b8889030", func := "skein/skeinlaw17.LinkcutOrder", spec := "linkcutOrder", apart := false, narrowed := true }
def LinkcutOrderUptoSaid : Prop := linkcutOrderUptoRow.holds Try.pinned (OpenSpec.upto linkcutOrderSpec)

/-- 'skeinlaw17.LinkcutWeights', WHERE WHAT IT READS IS OF BULK AT MOST 1048576: true; the input reads as it did. -/
def linkcutWeightsUptoRow : OpenClaim := { program := "ytfknppccgojhdaa", sum := "dcb8127be944c4d28b363d0653541992bac5653d50524af612c3d806b8889030", func := "skein/skeinlaw17.LinkcutWeights", spec := "linkcutWeights", apart := false, narrowed := true }
def LinkcutWeightsUptoSaid : Prop := linkcutWeightsUptoRow.holds Try.pinned (OpenSpec.upto linkcutWeightsSpec)

end Rows
end Go.Proofs.Ytfknppccgojhdaa
