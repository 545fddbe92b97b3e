/-
  DERIVED. GIVEN WITH THE SEED: THE CARDS: each row of YtpokaafedpnbdaaDoorRows.lean that lists a variable, with what it lists TIED to the program's text (the seventh form; the later family's looks); each row that meets fmt, with fmt's text TOLD by the authors' own Lean function (tested against real Go, not proved from fmt's source: count such statements apart). THE CARD IS WHAT COUNTS. Prove the row's statement (the work); the ties are given (YtpokaafedpnbdaaDoorTie.lean); close each card by the builder's one call (the guide's Derived/Test/ToyasCard.lean, 'card_holds'). Laid BY PROGRAM, IN A SANDBOX (cutbox-door.mjs). By AI agents, Wed Nov 11 2026. No macro, syntax, notation, axiom, sorry.
-/
import Derived.Test.YtpokaafedpnbdaaDoorRows
import GoSem.ClaimSeven
namespace Go.Proofs.YtpokaafedpnbdaaDoor
namespace Rows

/-- THE TIED CARD OF 'skeinlaw09.WalCrash'. -/
def walCrashCard : Claim7 := { stood := { row := walCrashRow, standIns := [], harness := (true, "6c59b8d6e3d35159f4c60718898e7666f1e4bf438a0ebab6bdac5ac4456fc782"), looks := false }, kinds := [], alts := [], laidByText := true, laidKinds := [.data, .pinned], laidTests := true, laidLooks := .later }
def WalCrashCardSaid : Prop := Claim7.holds Tryd.pinned (.plain (OpenSpec.ofChange walCrashSpec)) walCrashCard

/-- THE TIED CARD OF 'skeinlaw09.WalDies'. -/
def walDiesCard : Claim7 := { stood := { row := walDiesRow, standIns := [], harness := (true, "6c59b8d6e3d35159f4c60718898e7666f1e4bf438a0ebab6bdac5ac4456fc782"), looks := false }, kinds := [], alts := [], laidByText := true, laidKinds := [.data, .pinned], laidTests := true, laidLooks := .later }
def WalDiesCardSaid : Prop := Claim7.holds Tryd.pinned (.plain (OpenSpec.ofChange walDiesSpec)) walDiesCard

/-- THE TIED CARD OF 'skeinlaw09.WalNoise'. -/
def walNoiseCard : Claim7 := { stood := { row := walNoiseRow, standIns := [], harness := (true, "6c59b8d6e3d35159f4c60718898e7666f1e4bf438a0ebab6bdac5ac4456fc782"), looks := false }, kinds := [], alts := [], laidByText := true, laidKinds := [.data, .pinned], laidTests := true, laidLooks := .later }
def WalNoiseCardSaid : Prop := Claim7.holds Tryd.pinned (.plain (OpenSpec.ofChange walNoiseSpec)) walNoiseCard

/-- THE TIED CARD OF 'skeinlaw09.WalBack'. -/
def walBackCard : Claim7 := { stood := { row := walBackRow, standIns := [], harness := (true, "6c59b8d6e3d35159f4c60718898e7666f1e4bf438a0ebab6bdac5ac4456fc782"), looks := false }, kinds := [], alts := [], laidByText := true, laidKinds := [.data, .pinned], laidTests := true, laidLooks := .later }
def WalBackCardSaid : Prop := Claim7.holds Tryd.pinned (.plain (OpenSpec.ofChange walBackSpec)) walBackCard

/-- THE TIED CARD OF 'skeinlaw09.WalRuns'. -/
def walRunsCard : Claim7 := { stood := { row := walRunsRow, standIns := [], harness := (true, "6c59b8d6e3d35159f4c60718898e7666f1e4bf438a0ebab6bdac5ac4456fc782"), looks := false }, kinds := [], alts := [], laidByText := true, laidKinds := [.data, .pinned], laidTests := true, laidLooks := .later }
def WalRunsCardSaid : Prop := Claim7.holds Tryd.pinned (.plain (OpenSpec.ofChange walRunsSpec)) walRunsCard

/-- THE SECOND FORM's CARD OF 'skeinlaw09.WalCrash'. -/
def walCrashUptoCard : Claim7 := { stood := { row := walCrashUptoRow, standIns := [], harness := (true, "6c59b8d6e3d35159f4c60718898e7666f1e4bf438a0ebab6bdac5ac4456fc782"), looks := false }, kinds := [], alts := [], laidByText := true, laidKinds := [.data, .pinned], laidTests := true, laidLooks := .later }
def WalCrashUptoCardSaid : Prop := Claim7.holds Tryd.pinned (.plain (OpenSpec.upto walCrashSpec)) walCrashUptoCard

/-- THE SECOND FORM's CARD OF 'skeinlaw09.WalDies'. -/
def walDiesUptoCard : Claim7 := { stood := { row := walDiesUptoRow, standIns := [], harness := (true, "6c59b8d6e3d35159f4c60718898e7666f1e4bf438a0ebab6bdac5ac4456fc782"), looks := false }, kinds := [], alts := [], laidByText := true, laidKinds := [.data, .pinned], laidTests := true, laidLooks := .later }
def WalDiesUptoCardSaid : Prop := Claim7.holds Tryd.pinned (.plain (OpenSpec.upto walDiesSpec)) walDiesUptoCard

/-- THE SECOND FORM's CARD OF 'skeinlaw09.WalNoise'. -/
def walNoiseUptoCard : Claim7 := { stood := { row := walNoiseUptoRow, standIns := [], harness := (true, "6c59b8d6e3d35159f4c60718898e7666f1e4bf438a0ebab6bdac5ac4456fc782"), looks := false }, kinds := [], alts := [], laidByText := true, laidKinds := [.data, .pinned], laidTests := true, laidLooks := .later }
def WalNoiseUptoCardSaid : Prop := Claim7.holds Tryd.pinned (.plain (OpenSpec.upto walNoiseSpec)) walNoiseUptoCard

/-- THE SECOND FORM's CARD OF 'skeinlaw09.WalBack'. -/
def walBackUptoCard : Claim7 := { stood := { row := walBackUptoRow, standIns := [], harness := (true, "6c59b8d6e3d35159f4c60718898e7666f1e4bf438a0ebab6bdac5ac4456fc782"), looks := false }, kinds := [], alts := [], laidByText := true, laidKinds := [.data, .pinned], laidTests := true, laidLooks := .later }
def WalBackUptoCardSaid : Prop := Claim7.holds Tryd.pinned (.plain (OpenSpec.upto walBackSpec)) walBackUptoCard

/-- THE SECOND FORM's CARD OF 'skeinlaw09.WalRuns'. -/
def walRunsUptoCard : Claim7 := { stood := { row := walRunsUptoRow, standIns := [], harness := (true, "6c59b8d6e3d35159f4c60718898e7666f1e4bf438a0ebab6bdac5ac4456fc782"), looks := false }, kinds := [], alts := [], laidByText := true, laidKinds := [.data, .pinned], laidTests := true, laidLooks := .later }
def WalRunsUptoCardSaid : Prop := Claim7.holds Tryd.pinned (.plain (OpenSpec.upto walRunsSpec)) walRunsUptoCard
end Rows
end Go.Proofs.YtpokaafedpnbdaaDoor
