/-
  No cell of these rows narrows 'for every input' (looked for: loops, veiled, ifaces, maps, wideKeys, modest, calm, conditions, laid).
  DERIVED. THE GIVEN ROWS OF THIS SEAT. 6 by the template 'for every input the law returns true; each argument reads behind the call as it read before'; 0 by the template 'total and deterministic' (their statements: YthekjlglnmhlaaaTotals.lean).
  GIVEN WITH THE SEED: the statements are not yours to turn. If you find one false, say at which input.
  Laid BY PROGRAM, IN A SANDBOX (cutbox-rows.mjs): the forced cells as the released guide's own fill.sh prints them over the translation 4e713d41ded2cdf0… (all of the seat's roots in one cut). By AI agents, Wed Nov 11 2026. No macro, syntax, notation, axiom, sorry.
-/
import Derived.Test.YthekjlglnmhlaaaChecked
import GoSem.Claim
import GoSem.ClaimJoined
import GoSem.ClaimMapViews
import Derived.JoinedTies
import Derived.KernelRfl
namespace Go.Proofs.Ythekjlglnmhlaaa
/- THE CELL 'sum', in the pinned program and in every row, IS THE sha256 OF THE DUMP (.gsa) THAT YthekjlglnmhlaaaProg.lean LOADS. Nothing in Lean hashes anything: it is a label: what it is worth is what the hold of that sum in a sandbox is worth. -/
noncomputable def Try.pinned : Pinned := { name := "ythekjlglnmhlaaa", sum := "4e713d41ded2cdf0b01727a64cb55c74de9e736bd9085e47d812dc15e4c9e0c6", checked := Try.checked }
namespace Rows
def none {H : Type} : Left H := { results := [], args := [] }

/-- 'skeinlaw07.DiskSizes': WHATEVER THE INPUT: true; the input reads as it did. -/
def diskSizesSpec : ChangeSpec := { name := "diskSizes", fn := fun _ => fun
  | [d1, d2] => { results := [.lit (.bool true)], args := [d1, d2] }
  | _ => none }
def diskSizesRow : OpenClaim := { program := "ythekjlglnmhlaaa", sum := "4e713d41ded2cdf0b01727a64cb55c74de9e736bd9085e47d812dc15e4c9e0c6", func := "skein/skeinlaw07.DiskSizes", spec := "diskSizes", unfollowed := true, recurses := true, apart := false }
def DiskSizesSaid : Prop := diskSizesRow.holds Try.pinned (OpenSpec.ofChange diskSizesSpec)

/-- ITS FALSE NEIGHBOUR: 'it returns false'. Refute it at one input. -/
def diskSizesWrong : ChangeSpec := { name := "diskSizes", fn := fun _ => fun
  | [d1, d2] => { results := [.lit (.bool false)], args := [d1, d2] }
  | _ => none }
def DiskSizesWrongFalsely : Prop := diskSizesRow.holds Try.pinned (OpenSpec.ofChange diskSizesWrong)

/-- 'skeinlaw07.DiskSafe': WHATEVER THE INPUT: true; the input reads as it did. -/
def diskSafeSpec : ChangeSpec := { name := "diskSafe", fn := fun _ => fun
  | [d1, d2, d3, d4] => { results := [.lit (.bool true)], args := [d1, d2, d3, d4] }
  | _ => none }
def diskSafeRow : OpenClaim := { program := "ythekjlglnmhlaaa", sum := "4e713d41ded2cdf0b01727a64cb55c74de9e736bd9085e47d812dc15e4c9e0c6", func := "skein/skeinlaw07.DiskSafe", spec := "diskSafe", unfollowed := true, recurses := true, apart := false }
def DiskSafeSaid : Prop := diskSafeRow.holds Try.pinned (OpenSpec.ofChange diskSafeSpec)

/-- ITS FALSE NEIGHBOUR: 'it returns false'. Refute it at one input. -/
def diskSafeWrong : ChangeSpec := { name := "diskSafe", fn := fun _ => fun
  | [d1, d2, d3, d4] => { results := [.lit (.bool false)], args := [d1, d2, d3, d4] }
  | _ => none }
def DiskSafeWrongFalsely : Prop := diskSafeRow.holds Try.pinned (OpenSpec.ofChange diskSafeWrong)

/-- 'skeinlaw07.DiskLoad': WHATEVER THE INPUT: true; the input reads as it did. -/
def diskLoadSpec : ChangeSpec := { name := "diskLoad", fn := fun _ => fun
  | [d1, d2] => { results := [.lit (.bool true)], args := [d1, d2] }
  | _ => none }
def diskLoadRow : OpenClaim := { program := "ythekjlglnmhlaaa", sum := "4e713d41ded2cdf0b01727a64cb55c74de9e736bd9085e47d812dc15e4c9e0c6", func := "skein/skeinlaw07.DiskLoad", spec := "diskLoad", unfollowed := true, recurses := true, apart := false }
def DiskLoadSaid : Prop := diskLoadRow.holds Try.pinned (OpenSpec.ofChange diskLoadSpec)

/-- ITS FALSE NEIGHBOUR: 'it returns false'. Refute it at one input. -/
def diskLoadWrong : ChangeSpec := { name := "diskLoad", fn := fun _ => fun
  | [d1, d2] => { results := [.lit (.bool false)], args := [d1, d2] }
  | _ => none }
def DiskLoadWrongFalsely : Prop := diskLoadRow.holds Try.pinned (OpenSpec.ofChange diskLoadWrong)

/-- 'skeinlaw07.DiskPlays': WHATEVER THE INPUT: true; the input reads as it did. -/
def diskPlaysSpec : ChangeSpec := { name := "diskPlays", fn := fun _ => fun
  | [d1, d2] => { results := [.lit (.bool true)], args := [d1, d2] }
  | _ => none }
def diskPlaysRow : OpenClaim := { program := "ythekjlglnmhlaaa", sum := "4e713d41ded2cdf0b01727a64cb55c74de9e736bd9085e47d812dc15e4c9e0c6", func := "skein/skeinlaw07.DiskPlays", spec := "diskPlays", unfollowed := true, recurses := true, apart := false }
def DiskPlaysSaid : Prop := diskPlaysRow.holds Try.pinned (OpenSpec.ofChange diskPlaysSpec)

/-- ITS FALSE NEIGHBOUR: 'it returns false'. Refute it at one input. -/
def diskPlaysWrong : ChangeSpec := { name := "diskPlays", fn := fun _ => fun
  | [d1, d2] => { results := [.lit (.bool false)], args := [d1, d2] }
  | _ => none }
def DiskPlaysWrongFalsely : Prop := diskPlaysRow.holds Try.pinned (OpenSpec.ofChange diskPlaysWrong)

/-- 'skeinlaw07.DiskAtoms': WHATEVER THE INPUT: true; the input reads as it did. -/
def diskAtomsSpec : ChangeSpec := { name := "diskAtoms", fn := fun _ => fun
  | [d1, d2] => { results := [.lit (.bool true)], args := [d1, d2] }
  | _ => none }
def diskAtomsRow : OpenClaim := { program := "ythekjlglnmhlaaa", sum := "4e713d41ded2cdf0b01727a64cb55c74de9e736bd9085e47d812dc15e4c9e0c6", func := "skein/skeinlaw07.DiskAtoms", spec := "diskAtoms", unfollowed := true, recurses := true, apart := false }
def DiskAtomsSaid : Prop := diskAtomsRow.holds Try.pinned (OpenSpec.ofChange diskAtomsSpec)

/-- ITS FALSE NEIGHBOUR: 'it returns false'. Refute it at one input. -/
def diskAtomsWrong : ChangeSpec := { name := "diskAtoms", fn := fun _ => fun
  | [d1, d2] => { results := [.lit (.bool false)], args := [d1, d2] }
  | _ => none }
def DiskAtomsWrongFalsely : Prop := diskAtomsRow.holds Try.pinned (OpenSpec.ofChange diskAtomsWrong)

/-- 'skeinlaw07.DiskFates': WHATEVER THE INPUT: true; the input reads as it did. -/
def diskFatesSpec : ChangeSpec := { name := "diskFates", fn := fun _ => fun
  | [d1, d2, d3, d4] => { results := [.lit (.bool true)], args := [d1, d2, d3, d4] }
  | _ => none }
def diskFatesRow : OpenClaim := { program := "ythekjlglnmhlaaa", sum := "4e713d41ded2cdf0b01727a64cb55c74de9e736bd9085e47d812dc15e4c9e0c6", func := "skein/skeinlaw07.DiskFates", spec := "diskFates", unfollowed := true, recurses := true, apart := false }
def DiskFatesSaid : Prop := diskFatesRow.holds Try.pinned (OpenSpec.ofChange diskFatesSpec)

/-- ITS FALSE NEIGHBOUR: 'it returns false'. Refute it at one input. -/
def diskFatesWrong : ChangeSpec := { name := "diskFates", fn := fun _ => fun
  | [d1, d2, d3, d4] => { results := [.lit (.bool false)], args := [d1, d2, d3, d4] }
  | _ => none }
def DiskFatesWrongFalsely : Prop := diskFatesRow.holds Try.pinned (OpenSpec.ofChange diskFatesWrong)

/- THE SECOND FORM. 'bulk': how many values and letters a reading holds, each counted each time it is reached (what is shared counts as often as it is met; a slice's spare places count too). A statement '..UptoSaid' is the law's where the arguments, and the package variables that the reading takes, are together of bulk at most 1048576: NARROWER than '..Said'. Prove '..Said' where nothing that the law and all that it calls make is longer than what came in: it says more and counts as full. Else prove '..UptoSaid'. A law counts once. -/
mutual
def uptoBulk {H : Type} : DataW H → Nat
  | .lit (.string bytes) => bytes.length + 1
  | .lit _ => 1
  | .nil => 1
  | .ptr d => uptoBulk d + 1
  | .slice elems spare => uptoBulkAll elems + uptoBulkAll spare + 1
  | .agg parts => uptoBulkAll parts + 1
  | .iface _ d => uptoBulk d + 1
  | .map entries => uptoBulkEntries entries + 1
  | .held _ => 1
def uptoBulkAll {H : Type} : List (DataW H) → Nat
  | [] => 0
  | d :: r => uptoBulk d + uptoBulkAll r
def uptoBulkEntries {H : Type} : List (Lit × DataW H) → Nat
  | [] => 0
  | x :: r => uptoBulkEntry x + uptoBulkEntries r
def uptoBulkEntry {H : Type} : Lit × DataW H → Nat
  | (.string bytes, d) => bytes.length + uptoBulk d + 1
  | (_, d) => uptoBulk d + 1
 end
def uptoSmall : (H : Type) → List (DataW H) → Bool := fun _ ds => decide (uptoBulkAll ds ≤ 1048576)
def OpenSpec.upto (s : _root_.Go.ChangeSpec) : _root_.Go.OpenSpec := { _root_.Go.OpenSpec.ofChange s with cond := some uptoSmall }

/-- 'skeinlaw07.DiskSizes', WHERE WHAT IT READS IS OF BULK AT MOST 1048576: true; the input reads as it did. -/
def diskSizesUptoRow : OpenClaim := { program := "ythekjlglnmhlaaa", sum := "4e713d41ded2cdf0b01727a64cb55c74de9e736bd9085e47d812dc15e4c9e0c6", func := "skein/skeinlaw07.DiskSizes", spec := "diskSizes", unfollowed := true, recurses := true, apart := false, narrowed := true }
def DiskSizesUptoSaid : Prop := diskSizesUptoRow.holds Try.pinned (OpenSpec.upto diskSizesSpec)

/-- 'skeinlaw07.DiskSafe', WHERE WHAT IT READS IS OF BULK AT MOST 1048576: true; the input reads as it did. -/
def diskSafeUptoRow : OpenClaim := { program := "ythekjlglnmhlaaa", sum := "4e713d41ded2cdf0b01727a64cb55c74de9e736bd9085e47d812dc15e4c9e0c6", func := "skein/skeinlaw07.DiskSafe", spec := "diskSafe", unfollowed := true, recurses := true, apart := false, narrowed := true }
def DiskSafeUptoSaid : Prop := diskSafeUptoRow.holds Try.pinned (OpenSpec.upto diskSafeSpec)

/-- 'skeinlaw07.DiskLoad', WHERE WHAT IT READS IS OF BULK AT MOST 1048576: true; the input reads as it did. -/
def diskLoadUptoRow : OpenClaim := { program := "ythekjlglnmhlaaa", sum := "4e713d41ded2cdf0b01727a64cb55c74de9e736bd9085e47d812dc15e4c9e0c6", func := "skein/skeinlaw07.DiskLoad", spec := "diskLoad", unfollowed := true, recurses := true, apart := false, narrowed := true }
def DiskLoadUptoSaid : Prop := diskLoadUptoRow.holds Try.pinned (OpenSpec.upto diskLoadSpec)

/-- 'skeinlaw07.DiskPlays', WHERE WHAT IT READS IS OF BULK AT MOST 1048576: true; the input reads as it did. -/
def diskPlaysUptoRow : OpenClaim := { program := "ythekjlglnmhlaaa", sum := "4e713d41ded2cdf0b01727a64cb55c74de9e736bd9085e47d812dc15e4c9e0c6", func := "skein/skeinlaw07.DiskPlays", spec := "diskPlays", unfollowed := true, recurses := true, apart := false, narrowed := true }
def DiskPlaysUptoSaid : Prop := diskPlaysUptoRow.holds Try.pinned (OpenSpec.upto diskPlaysSpec)

/-- 'skeinlaw07.DiskAtoms', WHERE WHAT IT READS IS OF BULK AT MOST 1048576: true; the input reads as it did. -/
def diskAtomsUptoRow : OpenClaim := { program := "ythekjlglnmhlaaa", sum := "4e713d41ded2cdf0b01727a64cb55c74de9e736bd9085e47d812dc15e4c9e0c6", func := "skein/skeinlaw07.DiskAtoms", spec := "diskAtoms", unfollowed := true, recurses := true, apart := false, narrowed := true }
def DiskAtomsUptoSaid : Prop := diskAtomsUptoRow.holds Try.pinned (OpenSpec.upto diskAtomsSpec)

/-- 'skeinlaw07.DiskFates', WHERE WHAT IT READS IS OF BULK AT MOST 1048576: true; the input reads as it did. -/
def diskFatesUptoRow : OpenClaim := { program := "ythekjlglnmhlaaa", sum := "4e713d41ded2cdf0b01727a64cb55c74de9e736bd9085e47d812dc15e4c9e0c6", func := "skein/skeinlaw07.DiskFates", spec := "diskFates", unfollowed := true, recurses := true, apart := false, narrowed := true }
def DiskFatesUptoSaid : Prop := diskFatesUptoRow.holds Try.pinned (OpenSpec.upto diskFatesSpec)

end Rows
end Go.Proofs.Ythekjlglnmhlaaa
