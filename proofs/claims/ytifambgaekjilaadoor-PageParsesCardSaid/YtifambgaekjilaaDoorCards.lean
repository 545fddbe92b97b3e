/-
  DERIVED. GIVEN WITH THE SEED: THE CARDS: each row of YtifambgaekjilaaDoorRows.lean that lists a variable, with what it lists TIED to the program's text (the seventh form; the later family's looks); each row that meets fmt, with fmt's text TOLD by the authors' own Lean function (tested against real Go, not proved from fmt's source: count such statements apart). THE CARD IS WHAT COUNTS. Prove the row's statement (the work); the ties are given (YtifambgaekjilaaDoorTie.lean); close each card by the builder's one call (the guide's Derived/Test/ToyasCard.lean, 'card_holds'). Laid BY PROGRAM, IN A SANDBOX (cutbox-door.mjs). By AI agents, Wed Nov 11 2026. No macro, syntax, notation, axiom, sorry.
-/
import Derived.Test.YtifambgaekjilaaDoorRows
import GoSem.ClaimSeven
namespace Go.Proofs.YtifambgaekjilaaDoor
namespace Rows

/-- THE TIED CARD OF 'skeinlaw08.PageParses'. -/
def pageParsesCard : Claim7 := { stood := { row := pageParsesRow, standIns := [], harness := (true, "4ef73e28a59ce4d77ab7e4de61b95291a3cea40c427cfb6f03efd24581b4ddeb"), looks := false }, kinds := [], alts := [], laidByText := true, laidKinds := [.data, .pinned], laidTests := true, laidLooks := .later }
def PageParsesCardSaid : Prop := Claim7.holds Tryd.pinned (.plain (OpenSpec.ofChange pageParsesSpec)) pageParsesCard

/-- THE TIED CARD OF 'skeinlaw08.PageRooms'. -/
def pageRoomsCard : Claim7 := { stood := { row := pageRoomsRow, standIns := [], harness := (true, "4ef73e28a59ce4d77ab7e4de61b95291a3cea40c427cfb6f03efd24581b4ddeb"), looks := false }, kinds := [], alts := [], laidByText := true, laidKinds := [.data, .pinned], laidTests := true, laidLooks := .later }
def PageRoomsCardSaid : Prop := Claim7.holds Tryd.pinned (.plain (OpenSpec.ofChange pageRoomsSpec)) pageRoomsCard

/-- THE TIED CARD OF 'skeinlaw08.PageOrder'. -/
def pageOrderCard : Claim7 := { stood := { row := pageOrderRow, standIns := [], harness := (true, "4ef73e28a59ce4d77ab7e4de61b95291a3cea40c427cfb6f03efd24581b4ddeb"), looks := false }, kinds := [], alts := [], laidByText := true, laidKinds := [.data, .pinned], laidTests := true, laidLooks := .later }
def PageOrderCardSaid : Prop := Claim7.holds Tryd.pinned (.plain (OpenSpec.ofChange pageOrderSpec)) pageOrderCard

/-- THE TIED CARD OF 'skeinlaw08.PageBack'. -/
def pageBackCard : Claim7 := { stood := { row := pageBackRow, standIns := [], harness := (true, "4ef73e28a59ce4d77ab7e4de61b95291a3cea40c427cfb6f03efd24581b4ddeb"), looks := false }, kinds := [], alts := [], laidByText := true, laidKinds := [.data, .pinned], laidTests := true, laidLooks := .later }
def PageBackCardSaid : Prop := Claim7.holds Tryd.pinned (.plain (OpenSpec.ofChange pageBackSpec)) pageBackCard

/-- THE SECOND FORM's CARD OF 'skeinlaw08.PageParses'. -/
def pageParsesUptoCard : Claim7 := { stood := { row := pageParsesUptoRow, standIns := [], harness := (true, "4ef73e28a59ce4d77ab7e4de61b95291a3cea40c427cfb6f03efd24581b4ddeb"), looks := false }, kinds := [], alts := [], laidByText := true, laidKinds := [.data, .pinned], laidTests := true, laidLooks := .later }
def PageParsesUptoCardSaid : Prop := Claim7.holds Tryd.pinned (.plain (OpenSpec.upto pageParsesSpec)) pageParsesUptoCard

/-- THE SECOND FORM's CARD OF 'skeinlaw08.PageRooms'. -/
def pageRoomsUptoCard : Claim7 := { stood := { row := pageRoomsUptoRow, standIns := [], harness := (true, "4ef73e28a59ce4d77ab7e4de61b95291a3cea40c427cfb6f03efd24581b4ddeb"), looks := false }, kinds := [], alts := [], laidByText := true, laidKinds := [.data, .pinned], laidTests := true, laidLooks := .later }
def PageRoomsUptoCardSaid : Prop := Claim7.holds Tryd.pinned (.plain (OpenSpec.upto pageRoomsSpec)) pageRoomsUptoCard

/-- THE SECOND FORM's CARD OF 'skeinlaw08.PageOrder'. -/
def pageOrderUptoCard : Claim7 := { stood := { row := pageOrderUptoRow, standIns := [], harness := (true, "4ef73e28a59ce4d77ab7e4de61b95291a3cea40c427cfb6f03efd24581b4ddeb"), looks := false }, kinds := [], alts := [], laidByText := true, laidKinds := [.data, .pinned], laidTests := true, laidLooks := .later }
def PageOrderUptoCardSaid : Prop := Claim7.holds Tryd.pinned (.plain (OpenSpec.upto pageOrderSpec)) pageOrderUptoCard

/-- THE SECOND FORM's CARD OF 'skeinlaw08.PageBack'. -/
def pageBackUptoCard : Claim7 := { stood := { row := pageBackUptoRow, standIns := [], harness := (true, "4ef73e28a59ce4d77ab7e4de61b95291a3cea40c427cfb6f03efd24581b4ddeb"), looks := false }, kinds := [], alts := [], laidByText := true, laidKinds := [.data, .pinned], laidTests := true, laidLooks := .later }
def PageBackUptoCardSaid : Prop := Claim7.holds Tryd.pinned (.plain (OpenSpec.upto pageBackSpec)) pageBackUptoCard
end Rows
end Go.Proofs.YtifambgaekjilaaDoor
