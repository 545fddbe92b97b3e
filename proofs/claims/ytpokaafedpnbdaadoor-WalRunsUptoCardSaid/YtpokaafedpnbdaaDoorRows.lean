/-
  NARROWER THAN 'FOR EVERY INPUT', by the rows' own cells (each row's printed sentence says how): WalCrash: laid · WalDies: laid · WalNoise: laid · WalBack: laid · WalRuns: laid.
  DERIVED. THE GIVEN ROWS OF THIS SEAT. 5 by the template 'for every input the law returns true; each argument reads behind the call as it read before'; 0 by the template 'total and deterministic' (their statements: YtpokaafedpnbdaaDoorTotals.lean).
  GIVEN WITH THE SEED: the statements are not yours to turn. If you find one false, say at which input.
  Laid BY PROGRAM, IN A SANDBOX (cutbox-rows.mjs): the forced cells as the released guide's own fill.sh prints them over the translation 04d60ae3a506188e… (all of the seat's roots in one cut). By AI agents, Wed Nov 11 2026. No macro, syntax, notation, axiom, sorry.
-/
import Derived.Test.YtpokaafedpnbdaaDoorChecked
import GoSem.PinnedTables
import GoSem.Claim
import GoSem.ClaimJoined
import GoSem.ClaimMapViews
import Derived.JoinedTies
import Derived.KernelRfl
namespace Go.Proofs.YtpokaafedpnbdaaDoor
/- THE CELL 'sum', in the pinned program and in every row, IS THE sha256 OF THE DUMP (.gsa) THAT YtpokaafedpnbdaaDoorProg.lean LOADS. Nothing in Lean hashes anything: it is a label: what it is worth is what the hold of that sum in a sandbox is worth. -/
noncomputable def Tryd.pinned : Pinned := { name := "ytpokaafedpnbdaadoor", sum := "04d60ae3a506188ec2c549250e86eb4839e0e3fec9f1c301e4f595b5fd6be95c", checked := Tryd.checked }
namespace Rows
def none {H : Type} : Left H := { results := [], args := [] }

/- WHAT THE LISTED PACKAGE-LEVEL VARIABLES READ AS WHEN THE CALL BEGINS. Each datum BY PROGRAM (the guide's laid-datum.mjs) off the statement by which the dump's own 'gosem.cut.vars' lays the variable. In a bare row this is a premise. The card (YtpokaafedpnbdaaDoorCards.lean) ties it to the program's text. -/
def laid_unicode_utf8_acceptRanges {H : Type} : DataW H := .agg [.agg [.lit (.int .u8 128), .lit (.int .u8 191)], .agg [.lit (.int .u8 160), .lit (.int .u8 191)], .agg [.lit (.int .u8 128), .lit (.int .u8 159)], .agg [.lit (.int .u8 144), .lit (.int .u8 191)], .agg [.lit (.int .u8 128), .lit (.int .u8 143)], .agg [.lit (.int .u8 0), .lit (.int .u8 0)], .agg [.lit (.int .u8 0), .lit (.int .u8 0)], .agg [.lit (.int .u8 0), .lit (.int .u8 0)], .agg [.lit (.int .u8 0), .lit (.int .u8 0)], .agg [.lit (.int .u8 0), .lit (.int .u8 0)], .agg [.lit (.int .u8 0), .lit (.int .u8 0)], .agg [.lit (.int .u8 0), .lit (.int .u8 0)], .agg [.lit (.int .u8 0), .lit (.int .u8 0)], .agg [.lit (.int .u8 0), .lit (.int .u8 0)], .agg [.lit (.int .u8 0), .lit (.int .u8 0)], .agg [.lit (.int .u8 0), .lit (.int .u8 0)]]
/-- One of Go's own tables, pinned by name: the form's constant. -/
def laid_unicode_utf8_first : DataW Unit := Go.Pinned.utf8First

/-- 'skeinlaw09.WalCrash': WHATEVER THE INPUT: true; the input reads as it did. -/
def walCrashSpec : ChangeSpec := { name := "walCrash", fn := fun _ => fun
  | [d1, d2] => { results := [.lit (.bool true)], args := [d1, d2] }
  | _ => none }
def walCrashRow : OpenClaim := { program := "ytpokaafedpnbdaadoor", sum := "04d60ae3a506188ec2c549250e86eb4839e0e3fec9f1c301e4f595b5fd6be95c", func := "skein/skeinlaw09.WalCrash", spec := "walCrash", unfollowed := true, recurses := true, named := ["unicode/utf8.first", "unicode/utf8.acceptRanges"], apart := false, laid := [("unicode/utf8.acceptRanges", laid_unicode_utf8_acceptRanges), ("unicode/utf8.first", laid_unicode_utf8_first)] }
def WalCrashSaid : Prop := walCrashRow.holds Tryd.pinned (OpenSpec.ofChange walCrashSpec)

/-- ITS FALSE NEIGHBOUR: 'it returns false'. Refute it at one input. -/
def walCrashWrong : ChangeSpec := { name := "walCrash", fn := fun _ => fun
  | [d1, d2] => { results := [.lit (.bool false)], args := [d1, d2] }
  | _ => none }
def WalCrashWrongFalsely : Prop := walCrashRow.holds Tryd.pinned (OpenSpec.ofChange walCrashWrong)

/-- 'skeinlaw09.WalDies': WHATEVER THE INPUT: true; the input reads as it did. -/
def walDiesSpec : ChangeSpec := { name := "walDies", fn := fun _ => fun
  | [d1, d2, d3] => { results := [.lit (.bool true)], args := [d1, d2, d3] }
  | _ => none }
def walDiesRow : OpenClaim := { program := "ytpokaafedpnbdaadoor", sum := "04d60ae3a506188ec2c549250e86eb4839e0e3fec9f1c301e4f595b5fd6be95c", func := "skein/skeinlaw09.WalDies", spec := "walDies", unfollowed := true, recurses := true, named := ["unicode/utf8.first", "unicode/utf8.acceptRanges"], apart := false, laid := [("unicode/utf8.acceptRanges", laid_unicode_utf8_acceptRanges), ("unicode/utf8.first", laid_unicode_utf8_first)] }
def WalDiesSaid : Prop := walDiesRow.holds Tryd.pinned (OpenSpec.ofChange walDiesSpec)

/-- ITS FALSE NEIGHBOUR: 'it returns false'. Refute it at one input. -/
def walDiesWrong : ChangeSpec := { name := "walDies", fn := fun _ => fun
  | [d1, d2, d3] => { results := [.lit (.bool false)], args := [d1, d2, d3] }
  | _ => none }
def WalDiesWrongFalsely : Prop := walDiesRow.holds Tryd.pinned (OpenSpec.ofChange walDiesWrong)

/-- 'skeinlaw09.WalNoise': WHATEVER THE INPUT: true; the input reads as it did. -/
def walNoiseSpec : ChangeSpec := { name := "walNoise", fn := fun _ => fun
  | [d1, d2, d3] => { results := [.lit (.bool true)], args := [d1, d2, d3] }
  | _ => none }
def walNoiseRow : OpenClaim := { program := "ytpokaafedpnbdaadoor", sum := "04d60ae3a506188ec2c549250e86eb4839e0e3fec9f1c301e4f595b5fd6be95c", func := "skein/skeinlaw09.WalNoise", spec := "walNoise", unfollowed := true, recurses := true, named := ["unicode/utf8.first", "unicode/utf8.acceptRanges"], apart := false, laid := [("unicode/utf8.acceptRanges", laid_unicode_utf8_acceptRanges), ("unicode/utf8.first", laid_unicode_utf8_first)] }
def WalNoiseSaid : Prop := walNoiseRow.holds Tryd.pinned (OpenSpec.ofChange walNoiseSpec)

/-- ITS FALSE NEIGHBOUR: 'it returns false'. Refute it at one input. -/
def walNoiseWrong : ChangeSpec := { name := "walNoise", fn := fun _ => fun
  | [d1, d2, d3] => { results := [.lit (.bool false)], args := [d1, d2, d3] }
  | _ => none }
def WalNoiseWrongFalsely : Prop := walNoiseRow.holds Tryd.pinned (OpenSpec.ofChange walNoiseWrong)

/-- 'skeinlaw09.WalBack': WHATEVER THE INPUT: true; the input reads as it did. -/
def walBackSpec : ChangeSpec := { name := "walBack", fn := fun _ => fun
  | [d1, d2, d3, d4] => { results := [.lit (.bool true)], args := [d1, d2, d3, d4] }
  | _ => none }
def walBackRow : OpenClaim := { program := "ytpokaafedpnbdaadoor", sum := "04d60ae3a506188ec2c549250e86eb4839e0e3fec9f1c301e4f595b5fd6be95c", func := "skein/skeinlaw09.WalBack", spec := "walBack", unfollowed := true, recurses := true, named := ["unicode/utf8.first", "unicode/utf8.acceptRanges"], apart := false, laid := [("unicode/utf8.acceptRanges", laid_unicode_utf8_acceptRanges), ("unicode/utf8.first", laid_unicode_utf8_first)] }
def WalBackSaid : Prop := walBackRow.holds Tryd.pinned (OpenSpec.ofChange walBackSpec)

/-- ITS FALSE NEIGHBOUR: 'it returns false'. Refute it at one input. -/
def walBackWrong : ChangeSpec := { name := "walBack", fn := fun _ => fun
  | [d1, d2, d3, d4] => { results := [.lit (.bool false)], args := [d1, d2, d3, d4] }
  | _ => none }
def WalBackWrongFalsely : Prop := walBackRow.holds Tryd.pinned (OpenSpec.ofChange walBackWrong)

/-- 'skeinlaw09.WalRuns': WHATEVER THE INPUT: true; the input reads as it did. -/
def walRunsSpec : ChangeSpec := { name := "walRuns", fn := fun _ => fun
  | [d1, d2, d3] => { results := [.lit (.bool true)], args := [d1, d2, d3] }
  | _ => none }
def walRunsRow : OpenClaim := { program := "ytpokaafedpnbdaadoor", sum := "04d60ae3a506188ec2c549250e86eb4839e0e3fec9f1c301e4f595b5fd6be95c", func := "skein/skeinlaw09.WalRuns", spec := "walRuns", unfollowed := true, recurses := true, named := ["unicode/utf8.first", "unicode/utf8.acceptRanges"], apart := false, laid := [("unicode/utf8.acceptRanges", laid_unicode_utf8_acceptRanges), ("unicode/utf8.first", laid_unicode_utf8_first)] }
def WalRunsSaid : Prop := walRunsRow.holds Tryd.pinned (OpenSpec.ofChange walRunsSpec)

/-- ITS FALSE NEIGHBOUR: 'it returns false'. Refute it at one input. -/
def walRunsWrong : ChangeSpec := { name := "walRuns", fn := fun _ => fun
  | [d1, d2, d3] => { results := [.lit (.bool false)], args := [d1, d2, d3] }
  | _ => none }
def WalRunsWrongFalsely : Prop := walRunsRow.holds Tryd.pinned (OpenSpec.ofChange walRunsWrong)

/- THE SECOND FORM. 'bulk': how many values and letters a reading holds, each counted each time it is reached (what is shared counts as often as it is met; a slice's spare places count too). A statement '..UptoSaid' is the law's where the arguments, and the package variables that the reading takes, are together of bulk at most 1048576: NARROWER than '..Said'. Prove '..Said' where nothing that the law and all that it calls make is longer than what came in: it says more and counts as full. Else prove '..UptoSaid'. A law counts once. -/
mutual
def uptoBulk {H : Type} : DataW H → Nat
  | .lit (.string bytes) => bytes.length + 1
  | .lit _ => 1
  | .nil => 1
  | .ptr d => uptoBulk d + 1
  | .slice elems spare => uptoBulkAll elems + uptoBulkAll spare + 1
  | .agg parts => uptoBulkAll parts + 1
  | .iface _ d => uptoBulk d + 1
  | .map entries => uptoBulkEntries entries + 1
  | .held _ => 1
def uptoBulkAll {H : Type} : List (DataW H) → Nat
  | [] => 0
  | d :: r => uptoBulk d + uptoBulkAll r
def uptoBulkEntries {H : Type} : List (Lit × DataW H) → Nat
  | [] => 0
  | x :: r => uptoBulkEntry x + uptoBulkEntries r
def uptoBulkEntry {H : Type} : Lit × DataW H → Nat
  | (.string bytes, d) => bytes.length + uptoBulk d + 1
  | (_, d) => uptoBulk d + 1
 end
def uptoSmall : (H : Type) → List (DataW H) → Bool := fun _ ds => decide (uptoBulkAll ds ≤ 1048576)
def OpenSpec.upto (s : _root_.Go.ChangeSpec) : _root_.Go.OpenSpec := { _root_.Go.OpenSpec.ofChange s with cond := some uptoSmall }

/-- 'skeinlaw09.WalCrash', WHERE WHAT IT READS IS OF BULK AT MOST 1048576: true; the input reads as it did. -/
def walCrashUptoRow : OpenClaim := { program := "ytpokaafedpnbdaadoor", sum := "04d60ae3a506188ec2c549250e86eb4839e0e3fec9f1c301e4f595b5fd6be95c", func := "skein/skeinlaw09.WalCrash", spec := "walCrash", unfollowed := true, recurses := true, named := ["unicode/utf8.first", "unicode/utf8.acceptRanges"], apart := false, laid := [("unicode/utf8.acceptRanges", laid_unicode_utf8_acceptRanges), ("unicode/utf8.first", laid_unicode_utf8_first)], narrowed := true }
def WalCrashUptoSaid : Prop := walCrashUptoRow.holds Tryd.pinned (OpenSpec.upto walCrashSpec)

/-- 'skeinlaw09.WalDies', WHERE WHAT IT READS IS OF BULK AT MOST 1048576: true; the input reads as it did. -/
def walDiesUptoRow : OpenClaim := { program := "ytpokaafedpnbdaadoor", sum := "04d60ae3a506188ec2c549250e86eb4839e0e3fec9f1c301e4f595b5fd6be95c", func := "skein/skeinlaw09.WalDies", spec := "walDies", unfollowed := true, recurses := true, named := ["unicode/utf8.first", "unicode/utf8.acceptRanges"], apart := false, laid := [("unicode/utf8.acceptRanges", laid_unicode_utf8_acceptRanges), ("unicode/utf8.first", laid_unicode_utf8_first)], narrowed := true }
def WalDiesUptoSaid : Prop := walDiesUptoRow.holds Tryd.pinned (OpenSpec.upto walDiesSpec)

/-- 'skeinlaw09.WalNoise', WHERE WHAT IT READS IS OF BULK AT MOST 1048576: true; the input reads as it did. -/
def walNoiseUptoRow : OpenClaim := { program := "ytpokaafedpnbdaadoor", sum := "04d60ae3a506188ec2c549250e86eb4839e0e3fec9f1c301e4f595b5fd6be95c", func := "skein/skeinlaw09.WalNoise", spec := "walNoise", unfollowed := true, recurses := true, named := ["unicode/utf8.first", "unicode/utf8.acceptRanges"], apart := false, laid := [("unicode/utf8.acceptRanges", laid_unicode_utf8_acceptRanges), ("unicode/utf8.first", laid_unicode_utf8_first)], narrowed := true }
def WalNoiseUptoSaid : Prop := walNoiseUptoRow.holds Tryd.pinned (OpenSpec.upto walNoiseSpec)

/-- 'skeinlaw09.WalBack', WHERE WHAT IT READS IS OF BULK AT MOST 1048576: true; the input reads as it did. -/
def walBackUptoRow : OpenClaim := { program := "ytpokaafedpnbdaadoor", sum := "04d60ae3a506188ec2c549250e86eb4839e0e3fec9f1c301e4f595b5fd6be95c", func := "skein/skeinlaw09.WalBack", spec := "walBack", unfollowed := true, recurses := true, named := ["unicode/utf8.first", "unicode/utf8.acceptRanges"], apart := false, laid := [("unicode/utf8.acceptRanges", laid_unicode_utf8_acceptRanges), ("unicode/utf8.first", laid_unicode_utf8_first)], narrowed := true }
def WalBackUptoSaid : Prop := walBackUptoRow.holds Tryd.pinned (OpenSpec.upto walBackSpec)

/-- 'skeinlaw09.WalRuns', WHERE WHAT IT READS IS OF BULK AT MOST 1048576: true; the input reads as it did. -/
def walRunsUptoRow : OpenClaim := { program := "ytpokaafedpnbdaadoor", sum := "04d60ae3a506188ec2c549250e86eb4839e0e3fec9f1c301e4f595b5fd6be95c", func := "skein/skeinlaw09.WalRuns", spec := "walRuns", unfollowed := true, recurses := true, named := ["unicode/utf8.first", "unicode/utf8.acceptRanges"], apart := false, laid := [("unicode/utf8.acceptRanges", laid_unicode_utf8_acceptRanges), ("unicode/utf8.first", laid_unicode_utf8_first)], narrowed := true }
def WalRunsUptoSaid : Prop := walRunsUptoRow.holds Tryd.pinned (OpenSpec.upto walRunsSpec)

end Rows
end Go.Proofs.YtpokaafedpnbdaaDoor
