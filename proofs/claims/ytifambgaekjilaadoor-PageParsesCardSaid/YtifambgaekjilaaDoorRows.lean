/-
  NARROWER THAN 'FOR EVERY INPUT', by the rows' own cells (each row's printed sentence says how): PageParses: laid · PageRooms: laid · PageOrder: laid · PageBack: laid.
  DERIVED. THE GIVEN ROWS OF THIS SEAT. 4 by the template 'for every input the law returns true; each argument reads behind the call as it read before'; 0 by the template 'total and deterministic' (their statements: YtifambgaekjilaaDoorTotals.lean).
  GIVEN WITH THE SEED: the statements are not yours to turn. If you find one false, say at which input.
  Laid BY PROGRAM, IN A SANDBOX (cutbox-rows.mjs): the forced cells as the released guide's own fill.sh prints them over the translation b1ab92a7d04f2fdf… (all of the seat's roots in one cut). By AI agents, Wed Nov 11 2026. No macro, syntax, notation, axiom, sorry.
-/
import Derived.Test.YtifambgaekjilaaDoorChecked
import GoSem.PinnedTables
import GoSem.Claim
import GoSem.ClaimJoined
import GoSem.ClaimMapViews
import Derived.JoinedTies
import Derived.KernelRfl
namespace Go.Proofs.YtifambgaekjilaaDoor
/- THE CELL 'sum', in the pinned program and in every row, IS THE sha256 OF THE DUMP (.gsa) THAT YtifambgaekjilaaDoorProg.lean LOADS. Nothing in Lean hashes anything: it is a label: what it is worth is what the hold of that sum in a sandbox is worth. -/
noncomputable def Tryd.pinned : Pinned := { name := "ytifambgaekjilaadoor", sum := "b1ab92a7d04f2fdf25dd748a22c27fd32f2325f43606ae52f79aebd2cf698db7", checked := Tryd.checked }
namespace Rows
def none {H : Type} : Left H := { results := [], args := [] }

/- WHAT THE LISTED PACKAGE-LEVEL VARIABLES READ AS WHEN THE CALL BEGINS. Each datum BY PROGRAM (the guide's laid-datum.mjs) off the statement by which the dump's own 'gosem.cut.vars' lays the variable. In a bare row this is a premise. The card (YtifambgaekjilaaDoorCards.lean) ties it to the program's text. -/
def laid_unicode_utf8_acceptRanges {H : Type} : DataW H := .agg [.agg [.lit (.int .u8 128), .lit (.int .u8 191)], .agg [.lit (.int .u8 160), .lit (.int .u8 191)], .agg [.lit (.int .u8 128), .lit (.int .u8 159)], .agg [.lit (.int .u8 144), .lit (.int .u8 191)], .agg [.lit (.int .u8 128), .lit (.int .u8 143)], .agg [.lit (.int .u8 0), .lit (.int .u8 0)], .agg [.lit (.int .u8 0), .lit (.int .u8 0)], .agg [.lit (.int .u8 0), .lit (.int .u8 0)], .agg [.lit (.int .u8 0), .lit (.int .u8 0)], .agg [.lit (.int .u8 0), .lit (.int .u8 0)], .agg [.lit (.int .u8 0), .lit (.int .u8 0)], .agg [.lit (.int .u8 0), .lit (.int .u8 0)], .agg [.lit (.int .u8 0), .lit (.int .u8 0)], .agg [.lit (.int .u8 0), .lit (.int .u8 0)], .agg [.lit (.int .u8 0), .lit (.int .u8 0)], .agg [.lit (.int .u8 0), .lit (.int .u8 0)]]
/-- One of Go's own tables, pinned by name: the form's constant. -/
def laid_unicode_utf8_first : DataW Unit := Go.Pinned.utf8First

/-- 'skeinlaw08.PageParses': WHATEVER THE INPUT: true; the input reads as it did. -/
def pageParsesSpec : ChangeSpec := { name := "pageParses", fn := fun _ => fun
  | [d] => { results := [.lit (.bool true)], args := [d] }
  | _ => none }
def pageParsesRow : OpenClaim := { program := "ytifambgaekjilaadoor", sum := "b1ab92a7d04f2fdf25dd748a22c27fd32f2325f43606ae52f79aebd2cf698db7", func := "skein/skeinlaw08.PageParses", spec := "pageParses", inPlace := ["slices.overlaps[[]byte]"], unfollowed := true, recurses := true, named := ["unicode/utf8.first", "unicode/utf8.acceptRanges"], apart := false, laid := [("unicode/utf8.acceptRanges", laid_unicode_utf8_acceptRanges), ("unicode/utf8.first", laid_unicode_utf8_first)] }
def PageParsesSaid : Prop := pageParsesRow.holds Tryd.pinned (OpenSpec.ofChange pageParsesSpec)

/-- ITS FALSE NEIGHBOUR: 'it returns false'. Refute it at one input. -/
def pageParsesWrong : ChangeSpec := { name := "pageParses", fn := fun _ => fun
  | [d] => { results := [.lit (.bool false)], args := [d] }
  | _ => none }
def PageParsesWrongFalsely : Prop := pageParsesRow.holds Tryd.pinned (OpenSpec.ofChange pageParsesWrong)

/-- 'skeinlaw08.PageRooms': WHATEVER THE INPUT: true; the input reads as it did. -/
def pageRoomsSpec : ChangeSpec := { name := "pageRooms", fn := fun _ => fun
  | [d1, d2, d3] => { results := [.lit (.bool true)], args := [d1, d2, d3] }
  | _ => none }
def pageRoomsRow : OpenClaim := { program := "ytifambgaekjilaadoor", sum := "b1ab92a7d04f2fdf25dd748a22c27fd32f2325f43606ae52f79aebd2cf698db7", func := "skein/skeinlaw08.PageRooms", spec := "pageRooms", inPlace := ["slices.overlaps[[]byte]"], unfollowed := true, recurses := true, named := ["unicode/utf8.first", "unicode/utf8.acceptRanges"], apart := false, laid := [("unicode/utf8.acceptRanges", laid_unicode_utf8_acceptRanges), ("unicode/utf8.first", laid_unicode_utf8_first)] }
def PageRoomsSaid : Prop := pageRoomsRow.holds Tryd.pinned (OpenSpec.ofChange pageRoomsSpec)

/-- ITS FALSE NEIGHBOUR: 'it returns false'. Refute it at one input. -/
def pageRoomsWrong : ChangeSpec := { name := "pageRooms", fn := fun _ => fun
  | [d1, d2, d3] => { results := [.lit (.bool false)], args := [d1, d2, d3] }
  | _ => none }
def PageRoomsWrongFalsely : Prop := pageRoomsRow.holds Tryd.pinned (OpenSpec.ofChange pageRoomsWrong)

/-- 'skeinlaw08.PageOrder': WHATEVER THE INPUT: true; the input reads as it did. -/
def pageOrderSpec : ChangeSpec := { name := "pageOrder", fn := fun _ => fun
  | [d1, d2, d3] => { results := [.lit (.bool true)], args := [d1, d2, d3] }
  | _ => none }
def pageOrderRow : OpenClaim := { program := "ytifambgaekjilaadoor", sum := "b1ab92a7d04f2fdf25dd748a22c27fd32f2325f43606ae52f79aebd2cf698db7", func := "skein/skeinlaw08.PageOrder", spec := "pageOrder", inPlace := ["slices.overlaps[[]byte]"], unfollowed := true, recurses := true, named := ["unicode/utf8.first", "unicode/utf8.acceptRanges"], apart := false, laid := [("unicode/utf8.acceptRanges", laid_unicode_utf8_acceptRanges), ("unicode/utf8.first", laid_unicode_utf8_first)] }
def PageOrderSaid : Prop := pageOrderRow.holds Tryd.pinned (OpenSpec.ofChange pageOrderSpec)

/-- ITS FALSE NEIGHBOUR: 'it returns false'. Refute it at one input. -/
def pageOrderWrong : ChangeSpec := { name := "pageOrder", fn := fun _ => fun
  | [d1, d2, d3] => { results := [.lit (.bool false)], args := [d1, d2, d3] }
  | _ => none }
def PageOrderWrongFalsely : Prop := pageOrderRow.holds Tryd.pinned (OpenSpec.ofChange pageOrderWrong)

/-- 'skeinlaw08.PageBack': WHATEVER THE INPUT: true; the input reads as it did. -/
def pageBackSpec : ChangeSpec := { name := "pageBack", fn := fun _ => fun
  | [d1, d2] => { results := [.lit (.bool true)], args := [d1, d2] }
  | _ => none }
def pageBackRow : OpenClaim := { program := "ytifambgaekjilaadoor", sum := "b1ab92a7d04f2fdf25dd748a22c27fd32f2325f43606ae52f79aebd2cf698db7", func := "skein/skeinlaw08.PageBack", spec := "pageBack", inPlace := ["slices.overlaps[[]byte]"], unfollowed := true, recurses := true, named := ["unicode/utf8.first", "unicode/utf8.acceptRanges"], apart := false, laid := [("unicode/utf8.acceptRanges", laid_unicode_utf8_acceptRanges), ("unicode/utf8.first", laid_unicode_utf8_first)] }
def PageBackSaid : Prop := pageBackRow.holds Tryd.pinned (OpenSpec.ofChange pageBackSpec)

/-- ITS FALSE NEIGHBOUR: 'it returns false'. Refute it at one input. -/
def pageBackWrong : ChangeSpec := { name := "pageBack", fn := fun _ => fun
  | [d1, d2] => { results := [.lit (.bool false)], args := [d1, d2] }
  | _ => none }
def PageBackWrongFalsely : Prop := pageBackRow.holds Tryd.pinned (OpenSpec.ofChange pageBackWrong)

/- THE SECOND FORM. 'bulk': how many values and letters a reading holds, each counted each time it is reached (what is shared counts as often as it is met; a slice's spare places count too). A statement '..UptoSaid' is the law's where the arguments, and the package variables that the reading takes, are together of bulk at most 1048576: NARROWER than '..Said'. Prove '..Said' where nothing that the law and all that it calls make is longer than what came in: it says more and counts as full. Else prove '..UptoSaid'. A law counts once. -/
mutual
def uptoBulk {H : Type} : DataW H → Nat
  | .lit (.string bytes) => bytes.length + 1
  | .lit _ => 1
  | .nil => 1
  | .ptr d => uptoBulk d + 1
  | .slice elems spare => uptoBulkAll elems + uptoBulkAll spare + 1
  | .agg parts => uptoBulkAll parts + 1
  | .iface _ d => uptoBulk d + 1
  | .map entries => uptoBulkEntries entries + 1
  | .held _ => 1
def uptoBulkAll {H : Type} : List (DataW H) → Nat
  | [] => 0
  | d :: r => uptoBulk d + uptoBulkAll r
def uptoBulkEntries {H : Type} : List (Lit × DataW H) → Nat
  | [] => 0
  | x :: r => uptoBulkEntry x + uptoBulkEntries r
def uptoBulkEntry {H : Type} : Lit × DataW H → Nat
  | (.string bytes, d) => bytes.length + uptoBulk d + 1
  | (_, d) => uptoBulk d + 1
 end
def uptoSmall : (H : Type) → List (DataW H) → Bool := fun _ ds => decide (uptoBulkAll ds ≤ 1048576)
def OpenSpec.upto (s : _root_.Go.ChangeSpec) : _root_.Go.OpenSpec := { _root_.Go.OpenSpec.ofChange s with cond := some uptoSmall }

/-- 'skeinlaw08.PageParses', WHERE WHAT IT READS IS OF BULK AT MOST 1048576: true; the input reads as it did. -/
def pageParsesUptoRow : OpenClaim := { program := "ytifambgaekjilaadoor", sum := "b1ab92a7d04f2fdf25dd748a22c27fd32f2325f43606ae52f79aebd2cf698db7", func := "skein/skeinlaw08.PageParses", spec := "pageParses", inPlace := ["slices.overlaps[[]byte]"], unfollowed := true, recurses := true, named := ["unicode/utf8.first", "unicode/utf8.acceptRanges"], apart := false, laid := [("unicode/utf8.acceptRanges", laid_unicode_utf8_acceptRanges), ("unicode/utf8.first", laid_unicode_utf8_first)], narrowed := true }
def PageParsesUptoSaid : Prop := pageParsesUptoRow.holds Tryd.pinned (OpenSpec.upto pageParsesSpec)

/-- 'skeinlaw08.PageRooms', WHERE WHAT IT READS IS OF BULK AT MOST 1048576: true; the input reads as it did. -/
def pageRoomsUptoRow : OpenClaim := { program := "ytifambgaekjilaadoor", sum := "b1ab92a7d04f2fdf25dd748a22c27fd32f2325f43606ae52f79aebd2cf698db7", func := "skein/skeinlaw08.PageRooms", spec := "pageRooms", inPlace := ["slices.overlaps[[]byte]"], unfollowed := true, recurses := true, named := ["unicode/utf8.first", "unicode/utf8.acceptRanges"], apart := false, laid := [("unicode/utf8.acceptRanges", laid_unicode_utf8_acceptRanges), ("unicode/utf8.first", laid_unicode_utf8_first)], narrowed := true }
def PageRoomsUptoSaid : Prop := pageRoomsUptoRow.holds Tryd.pinned (OpenSpec.upto pageRoomsSpec)

/-- 'skeinlaw08.PageOrder', WHERE WHAT IT READS IS OF BULK AT MOST 1048576: true; the input reads as it did. -/
def pageOrderUptoRow : OpenClaim := { program := "ytifambgaekjilaadoor", sum := "b1ab92a7d04f2fdf25dd748a22c27fd32f2325f43606ae52f79aebd2cf698db7", func := "skein/skeinlaw08.PageOrder", spec := "pageOrder", inPlace := ["slices.overlaps[[]byte]"], unfollowed := true, recurses := true, named := ["unicode/utf8.first", "unicode/utf8.acceptRanges"], apart := false, laid := [("unicode/utf8.acceptRanges", laid_unicode_utf8_acceptRanges), ("unicode/utf8.first", laid_unicode_utf8_first)], narrowed := true }
def PageOrderUptoSaid : Prop := pageOrderUptoRow.holds Tryd.pinned (OpenSpec.upto pageOrderSpec)

/-- 'skeinlaw08.PageBack', WHERE WHAT IT READS IS OF BULK AT MOST 1048576: true; the input reads as it did. -/
def pageBackUptoRow : OpenClaim := { program := "ytifambgaekjilaadoor", sum := "b1ab92a7d04f2fdf25dd748a22c27fd32f2325f43606ae52f79aebd2cf698db7", func := "skein/skeinlaw08.PageBack", spec := "pageBack", inPlace := ["slices.overlaps[[]byte]"], unfollowed := true, recurses := true, named := ["unicode/utf8.first", "unicode/utf8.acceptRanges"], apart := false, laid := [("unicode/utf8.acceptRanges", laid_unicode_utf8_acceptRanges), ("unicode/utf8.first", laid_unicode_utf8_first)], narrowed := true }
def PageBackUptoSaid : Prop := pageBackUptoRow.holds Tryd.pinned (OpenSpec.upto pageBackSpec)

end Rows
end Go.Proofs.YtifambgaekjilaaDoor
