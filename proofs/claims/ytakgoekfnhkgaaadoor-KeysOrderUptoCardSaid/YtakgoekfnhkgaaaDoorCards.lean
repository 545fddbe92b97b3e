/-
  DERIVED. GIVEN WITH THE SEED: THE CARDS: each row of YtakgoekfnhkgaaaDoorRows.lean that lists a variable, with what it lists TIED to the program's text (the seventh form; the later family's looks); each row that meets fmt, with fmt's text TOLD by the authors' own Lean function (tested against real Go, not proved from fmt's source: count such statements apart). THE CARD IS WHAT COUNTS. Prove the row's statement (the work); the ties are given (YtakgoekfnhkgaaaDoorTie.lean); close each card by the builder's one call (the guide's Derived/Test/ToyasCard.lean, 'card_holds'). Laid BY PROGRAM, IN A SANDBOX (cutbox-door.mjs). By AI agents, Wed Nov 11 2026. No macro, syntax, notation, axiom, sorry.
-/
import Derived.Test.YtakgoekfnhkgaaaDoorRows
import GoSem.ClaimSeven
namespace Go.Proofs.YtakgoekfnhkgaaaDoor
namespace Rows

/-- THE TIED CARD OF 'skeinlaw04.KeysNames'. -/
def keysNamesCard : Claim7 := { stood := { row := keysNamesRow, standIns := [], harness := (true, "75b0b5efc0b97a8702d16aac789e3848b5f746e7a69e53684b6e1d949747466c"), looks := false }, kinds := [], alts := [], laidByText := true, laidKinds := [.data, .pinned], laidTests := true, laidLooks := .later }
def KeysNamesCardSaid : Prop := Claim7.holds Tryd.pinned (.plain (OpenSpec.ofChange keysNamesSpec)) keysNamesCard

/-- THE TIED CARD OF 'skeinlaw04.KeysVersions'. -/
def keysVersionsCard : Claim7 := { stood := { row := keysVersionsRow, standIns := [], harness := (true, "75b0b5efc0b97a8702d16aac789e3848b5f746e7a69e53684b6e1d949747466c"), looks := false }, kinds := [], alts := [], laidByText := true, laidKinds := [.data, .pinned], laidTests := true, laidLooks := .later }
def KeysVersionsCardSaid : Prop := Claim7.holds Tryd.pinned (.plain (OpenSpec.ofChange keysVersionsSpec)) keysVersionsCard

/-- THE TIED CARD OF 'skeinlaw04.KeysOrder'. -/
def keysOrderCard : Claim7 := { stood := { row := keysOrderRow, standIns := [], harness := (true, "75b0b5efc0b97a8702d16aac789e3848b5f746e7a69e53684b6e1d949747466c"), looks := false }, kinds := [], alts := [], laidByText := true, laidKinds := [.data, .pinned], laidTests := true, laidLooks := .later }
def KeysOrderCardSaid : Prop := Claim7.holds Tryd.pinned (.plain (OpenSpec.ofChange keysOrderSpec)) keysOrderCard

/-- THE TIED CARD OF 'skeinlaw04.KeysApart'. -/
def keysApartCard : Claim7 := { stood := { row := keysApartRow, standIns := [], harness := (true, "75b0b5efc0b97a8702d16aac789e3848b5f746e7a69e53684b6e1d949747466c"), looks := false }, kinds := [], alts := [], laidByText := true, laidKinds := [.data, .pinned], laidTests := true, laidLooks := .later }
def KeysApartCardSaid : Prop := Claim7.holds Tryd.pinned (.plain (OpenSpec.ofChange keysApartSpec)) keysApartCard

/-- THE SECOND FORM's CARD OF 'skeinlaw04.KeysNames'. -/
def keysNamesUptoCard : Claim7 := { stood := { row := keysNamesUptoRow, standIns := [], harness := (true, "75b0b5efc0b97a8702d16aac789e3848b5f746e7a69e53684b6e1d949747466c"), looks := false }, kinds := [], alts := [], laidByText := true, laidKinds := [.data, .pinned], laidTests := true, laidLooks := .later }
def KeysNamesUptoCardSaid : Prop := Claim7.holds Tryd.pinned (.plain (OpenSpec.upto keysNamesSpec)) keysNamesUptoCard

/-- THE SECOND FORM's CARD OF 'skeinlaw04.KeysVersions'. -/
def keysVersionsUptoCard : Claim7 := { stood := { row := keysVersionsUptoRow, standIns := [], harness := (true, "75b0b5efc0b97a8702d16aac789e3848b5f746e7a69e53684b6e1d949747466c"), looks := false }, kinds := [], alts := [], laidByText := true, laidKinds := [.data, .pinned], laidTests := true, laidLooks := .later }
def KeysVersionsUptoCardSaid : Prop := Claim7.holds Tryd.pinned (.plain (OpenSpec.upto keysVersionsSpec)) keysVersionsUptoCard

/-- THE SECOND FORM's CARD OF 'skeinlaw04.KeysOrder'. -/
def keysOrderUptoCard : Claim7 := { stood := { row := keysOrderUptoRow, standIns := [], harness := (true, "75b0b5efc0b97a8702d16aac789e3848b5f746e7a69e53684b6e1d949747466c"), looks := false }, kinds := [], alts := [], laidByText := true, laidKinds := [.data, .pinned], laidTests := true, laidLooks := .later }
def KeysOrderUptoCardSaid : Prop := Claim7.holds Tryd.pinned (.plain (OpenSpec.upto keysOrderSpec)) keysOrderUptoCard

/-- THE SECOND FORM's CARD OF 'skeinlaw04.KeysApart'. -/
def keysApartUptoCard : Claim7 := { stood := { row := keysApartUptoRow, standIns := [], harness := (true, "75b0b5efc0b97a8702d16aac789e3848b5f746e7a69e53684b6e1d949747466c"), looks := false }, kinds := [], alts := [], laidByText := true, laidKinds := [.data, .pinned], laidTests := true, laidLooks := .later }
def KeysApartUptoCardSaid : Prop := Claim7.holds Tryd.pinned (.plain (OpenSpec.upto keysApartSpec)) keysApartUptoCard
end Rows
end Go.Proofs.YtakgoekfnhkgaaaDoor
