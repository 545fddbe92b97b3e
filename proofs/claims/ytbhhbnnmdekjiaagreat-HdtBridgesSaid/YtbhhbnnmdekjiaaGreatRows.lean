/-
  No cell of these rows narrows 'for every input' (looked for: loops, veiled, ifaces, maps, wideKeys, modest, calm, conditions, laid).
  DERIVED. THE GIVEN ROWS OF THIS SEAT. 5 by the template 'for every input the law returns true; each argument reads behind the call as it read before'; 0 by the template 'total and deterministic' (their statements: YtbhhbnnmdekjiaaGreatTotals.lean).
  GIVEN WITH THE SEED: the statements are not yours to turn. If you find one false, say at which input.
  Laid BY PROGRAM, IN A SANDBOX (cutbox-rows.mjs): the forced cells as the released guide's own fill.sh prints them over the translation cce199605809ec24… (all of the seat's roots in one cut). By AI agents, Wed Nov 11 2026. No macro, syntax, notation, axiom, sorry.
-/
import Derived.Test.YtbhhbnnmdekjiaaGreatChecked
import GoSem.Claim
import GoSem.ClaimJoined
import GoSem.ClaimMapViews
import Derived.JoinedTies
import Derived.KernelRfl
namespace Go.Proofs.YtbhhbnnmdekjiaaGreat
/- THE CELL 'sum', in the pinned program and in every row, IS THE sha256 OF THE DUMP (.gsa) THAT YtbhhbnnmdekjiaaGreatProg.lean LOADS. Nothing in Lean hashes anything: it is a label: what it is worth is what the hold of that sum in a sandbox is worth. -/
noncomputable def Tryz.pinned : Pinned := { name := "ytbhhbnnmdekjiaagreat", sum := "cce199605809ec2468ee2339ee11f14892107b1ac5cf01631f0e4c168e5fd2a1", checked := Tryz.checked }
namespace Rows
def none {H : Type} : Left H := { results := [], args := [] }

/-- 'skeinlaw18.HdtPlays': WHATEVER THE INPUT: true; the input reads as it did. -/
def hdtPlaysSpec : ChangeSpec := { name := "hdtPlays", fn := fun _ => fun
  | [d1, d2] => { results := [.lit (.bool true)], args := [d1, d2] }
  | _ => none }
def hdtPlaysRow : OpenClaim := { program := "ytbhhbnnmdekjiaagreat", sum := "cce199605809ec2468ee2339ee11f14892107b1ac5cf01631f0e4c168e5fd2a1", func := "skein/skeinlaw18.HdtPlays", spec := "hdtPlays", unfollowed := true, recurses := true, apart := false }
def HdtPlaysSaid : Prop := hdtPlaysRow.holds Tryz.pinned (OpenSpec.ofChange hdtPlaysSpec)

/-- ITS FALSE NEIGHBOUR: 'it returns false'. Refute it at one input. -/
def hdtPlaysWrong : ChangeSpec := { name := "hdtPlays", fn := fun _ => fun
  | [d1, d2] => { results := [.lit (.bool false)], args := [d1, d2] }
  | _ => none }
def HdtPlaysWrongFalsely : Prop := hdtPlaysRow.holds Tryz.pinned (OpenSpec.ofChange hdtPlaysWrong)

/-- 'skeinlaw18.HdtBack': WHATEVER THE INPUT: true; the input reads as it did. -/
def hdtBackSpec : ChangeSpec := { name := "hdtBack", fn := fun _ => fun
  | [d1, d2, d3, d4, d5, d6] => { results := [.lit (.bool true)], args := [d1, d2, d3, d4, d5, d6] }
  | _ => none }
def hdtBackRow : OpenClaim := { program := "ytbhhbnnmdekjiaagreat", sum := "cce199605809ec2468ee2339ee11f14892107b1ac5cf01631f0e4c168e5fd2a1", func := "skein/skeinlaw18.HdtBack", spec := "hdtBack", unfollowed := true, recurses := true, apart := false }
def HdtBackSaid : Prop := hdtBackRow.holds Tryz.pinned (OpenSpec.ofChange hdtBackSpec)

/-- ITS FALSE NEIGHBOUR: 'it returns false'. Refute it at one input. -/
def hdtBackWrong : ChangeSpec := { name := "hdtBack", fn := fun _ => fun
  | [d1, d2, d3, d4, d5, d6] => { results := [.lit (.bool false)], args := [d1, d2, d3, d4, d5, d6] }
  | _ => none }
def HdtBackWrongFalsely : Prop := hdtBackRow.holds Tryz.pinned (OpenSpec.ofChange hdtBackWrong)

/-- 'skeinlaw18.HdtOrder': WHATEVER THE INPUT: true; the input reads as it did. -/
def hdtOrderSpec : ChangeSpec := { name := "hdtOrder", fn := fun _ => fun
  | [d1, d2, d3] => { results := [.lit (.bool true)], args := [d1, d2, d3] }
  | _ => none }
def hdtOrderRow : OpenClaim := { program := "ytbhhbnnmdekjiaagreat", sum := "cce199605809ec2468ee2339ee11f14892107b1ac5cf01631f0e4c168e5fd2a1", func := "skein/skeinlaw18.HdtOrder", spec := "hdtOrder", unfollowed := true, recurses := true, apart := false }
def HdtOrderSaid : Prop := hdtOrderRow.holds Tryz.pinned (OpenSpec.ofChange hdtOrderSpec)

/-- ITS FALSE NEIGHBOUR: 'it returns false'. Refute it at one input. -/
def hdtOrderWrong : ChangeSpec := { name := "hdtOrder", fn := fun _ => fun
  | [d1, d2, d3] => { results := [.lit (.bool false)], args := [d1, d2, d3] }
  | _ => none }
def HdtOrderWrongFalsely : Prop := hdtOrderRow.holds Tryz.pinned (OpenSpec.ofChange hdtOrderWrong)

/-- 'skeinlaw18.HdtSizes': WHATEVER THE INPUT: true; the input reads as it did. -/
def hdtSizesSpec : ChangeSpec := { name := "hdtSizes", fn := fun _ => fun
  | [d1, d2, d3, d4] => { results := [.lit (.bool true)], args := [d1, d2, d3, d4] }
  | _ => none }
def hdtSizesRow : OpenClaim := { program := "ytbhhbnnmdekjiaagreat", sum := "cce199605809ec2468ee2339ee11f14892107b1ac5cf01631f0e4c168e5fd2a1", func := "skein/skeinlaw18.HdtSizes", spec := "hdtSizes", unfollowed := true, recurses := true, apart := false }
def HdtSizesSaid : Prop := hdtSizesRow.holds Tryz.pinned (OpenSpec.ofChange hdtSizesSpec)

/-- ITS FALSE NEIGHBOUR: 'it returns false'. Refute it at one input. -/
def hdtSizesWrong : ChangeSpec := { name := "hdtSizes", fn := fun _ => fun
  | [d1, d2, d3, d4] => { results := [.lit (.bool false)], args := [d1, d2, d3, d4] }
  | _ => none }
def HdtSizesWrongFalsely : Prop := hdtSizesRow.holds Tryz.pinned (OpenSpec.ofChange hdtSizesWrong)

/-- 'skeinlaw18.HdtBridges': WHATEVER THE INPUT: true; the input reads as it did. -/
def hdtBridgesSpec : ChangeSpec := { name := "hdtBridges", fn := fun _ => fun
  | [d1, d2, d3] => { results := [.lit (.bool true)], args := [d1, d2, d3] }
  | _ => none }
def hdtBridgesRow : OpenClaim := { program := "ytbhhbnnmdekjiaagreat", sum := "cce199605809ec2468ee2339ee11f14892107b1ac5cf01631f0e4c168e5fd2a1", func := "skein/skeinlaw18.HdtBridges", spec := "hdtBridges", unfollowed := true, recurses := true, apart := false }
def HdtBridgesSaid : Prop := hdtBridgesRow.holds Tryz.pinned (OpenSpec.ofChange hdtBridgesSpec)

/-- ITS FALSE NEIGHBOUR: 'it returns false'. Refute it at one input. -/
def hdtBridgesWrong : ChangeSpec := { name := "hdtBridges", fn := fun _ => fun
  | [d1, d2, d3] => { results := [.lit (.bool false)], args := [d1, d2, d3] }
  | _ => none }
def HdtBridgesWrongFalsely : Prop := hdtBridgesRow.holds Tryz.pinned (OpenSpec.ofChange hdtBridgesWrong)

/- THE SECOND FORM. 'bulk': how many values and letters a reading holds, each counted each time it is reached (what is shared counts as often as it is met; a slice's spare places count too). A statement '..UptoSaid' is the law's where the arguments, and the package variables that the reading takes, are together of bulk at most 1048576: NARROWER than '..Said'. Prove '..Said' where nothing that the law and all that it calls make is longer than what came in: it says more and counts as full. Else prove '..UptoSaid'. A law counts once. -/
mutual
def uptoBulk {H : Type} : DataW H → Nat
  | .lit (.string bytes) => bytes.length + 1
  | .lit _ => 1
  | .nil => 1
  | .ptr d => uptoBulk d + 1
  | .slice elems spare => uptoBulkAll elems + uptoBulkAll spare + 1
  | .agg parts => uptoBulkAll parts + 1
  | .iface _ d => uptoBulk d + 1
  | .map entries => uptoBulkEntries entries + 1
  | .held _ => 1
def uptoBulkAll {H : Type} : List (DataW H) → Nat
  | [] => 0
  | d :: r => uptoBulk d + uptoBulkAll r
def uptoBulkEntries {H : Type} : List (Lit × DataW H) → Nat
  | [] => 0
  | x :: r => uptoBulkEntry x + uptoBulkEntries r
def uptoBulkEntry {H : Type} : Lit × DataW H → Nat
  | (.string bytes, d) => bytes.length + uptoBulk d + 1
  | (_, d) => uptoBulk d + 1
 end
def uptoSmall : (H : Type) → List (DataW H) → Bool := fun _ ds => decide (uptoBulkAll ds ≤ 1048576)
def OpenSpec.upto (s : _root_.Go.ChangeSpec) : _root_.Go.OpenSpec := { _root_.Go.OpenSpec.ofChange s with cond := some uptoSmall }

/-- 'skeinlaw18.HdtPlays', WHERE WHAT IT READS IS OF BULK AT MOST 1048576: true; the input reads as it did. -/
def hdtPlaysUptoRow : OpenClaim := { program := "ytbhhbnnmdekjiaagreat", sum := "cce199605809ec2468ee2339ee11f14892107b1ac5cf01631f0e4c168e5fd2a1", func := "skein/skeinlaw18.HdtPlays", spec := "hdtPlays", unfollowed := true, recurses := true, apart := false, narrowed := true }
def HdtPlaysUptoSaid : Prop := hdtPlaysUptoRow.holds Tryz.pinned (OpenSpec.upto hdtPlaysSpec)

/-- 'skeinlaw18.HdtBack', WHERE WHAT IT READS IS OF BULK AT MOST 1048576: true; the input reads as it did. -/
def hdtBackUptoRow : OpenClaim := { program := "ytbhhbnnmdekjiaagreat", sum := "cce199605809ec2468ee2339ee11f14892107b1ac5cf01631f0e4c168e5fd2a1", func := "skein/skeinlaw18.HdtBack", spec := "hdtBack", unfollowed := true, recurses := true, apart := false, narrowed := true }
def HdtBackUptoSaid : Prop := hdtBackUptoRow.holds Tryz.pinned (OpenSpec.upto hdtBackSpec)

/-- 'skeinlaw18.HdtOrder', WHERE WHAT IT READS IS OF BULK AT MOST 1048576: true; the input reads as it did. -/
def hdtOrderUptoRow : OpenClaim := { program := "ytbhhbnnmdekjiaagreat", sum := "cce199605809ec2468ee2339ee11f14892107b1ac5cf01631f0e4c168e5fd2a1", func := "skein/skeinlaw18.HdtOrder", spec := "hdtOrder", unfollowed := true, recurses := true, apart := false, narrowed := true }
def HdtOrderUptoSaid : Prop := hdtOrderUptoRow.holds Tryz.pinned (OpenSpec.upto hdtOrderSpec)

/-- 'skeinlaw18.HdtSizes', WHERE WHAT IT READS IS OF BULK AT MOST 1048576: true; the input reads as it did. -/
def hdtSizesUptoRow : OpenClaim := { program := "ytbhhbnnmdekjiaagreat", sum := "cce199605809ec2468ee2339ee11f14892107b1ac5cf01631f0e4c168e5fd2a1", func := "skein/skeinlaw18.HdtSizes", spec := "hdtSizes", unfollowed := true, recurses := true, apart := false, narrowed := true }
def HdtSizesUptoSaid : Prop := hdtSizesUptoRow.holds Tryz.pinned (OpenSpec.upto hdtSizesSpec)

/-- 'skeinlaw18.HdtBridges', WHERE WHAT IT READS IS OF BULK AT MOST 1048576: true; the input reads as it did. -/
def hdtBridgesUptoRow : OpenClaim := { program := "ytbhhbnnmdekjiaagreat", sum := "cce199605809ec2468ee2339ee11f14892107b1ac5cf01631f0e4c168e5fd2a1", func := "skein/skeinlaw18.HdtBridges", spec := "hdtBridges", unfollowed := true, recurses := true, apart := false, narrowed := true }
def HdtBridgesUptoSaid : Prop := hdtBridgesUptoRow.holds Tryz.pinned (OpenSpec.upto hdtBridgesSpec)

end Rows
end Go.Proofs.YtbhhbnnmdekjiaaGreat
