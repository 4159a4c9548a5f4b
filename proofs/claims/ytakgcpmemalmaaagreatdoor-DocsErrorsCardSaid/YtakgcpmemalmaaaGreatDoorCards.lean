/-
  DERIVED. GIVEN WITH THE SEED: THE CARDS: each row of YtakgcpmemalmaaaGreatDoorRows.lean that lists a variable, with what it lists TIED to the program's text (the seventh form; the later family's looks); each row that meets fmt, with fmt's text TOLD by the authors' own Lean function (tested against real Go, not proved from fmt's source: count such statements apart). THE CARD IS WHAT COUNTS. Prove the row's statement (the work); the ties are given (YtakgcpmemalmaaaGreatDoorTie.lean); close each card by the builder's one call (the guide's Derived/Test/ToyasCard.lean, 'card_holds'). Laid BY PROGRAM, IN A SANDBOX (cutbox-door.mjs). By AI agents, Wed Nov 11 2026. No macro, syntax, notation, axiom, sorry.
-/
import Derived.Test.YtakgcpmemalmaaaGreatDoorRows
import GoSem.ClaimSeven
namespace Go.Proofs.YtakgcpmemalmaaaGreatDoor
namespace Rows

/-- THE TIED CARD OF 'tendrillaw24.DocsRuns'. -/
def docsRunsCard : Claim7 := { stood := { row := docsRunsRow, standIns := [], harness := (true, "72c547fed5e774719475fdd190ff529d2e503c0feb0d0dad986fb4d32265e482"), looks := true }, kinds := [], alts := [], laidByText := true, laidKinds := [.data, .pinned], laidTests := true, laidLooks := .later }
def DocsRunsCardSaid : Prop := Claim7.holds Tryz.pinned (.plain (OpenSpec.ofChange docsRunsSpec)) docsRunsCard

/-- THE TIED CARD OF 'tendrillaw24.DocsQueries'. -/
def docsQueriesCard : Claim7 := { stood := { row := docsQueriesRow, standIns := [], harness := (true, "72c547fed5e774719475fdd190ff529d2e503c0feb0d0dad986fb4d32265e482"), looks := true }, kinds := [], alts := [], laidByText := true, laidKinds := [.data, .pinned], laidTests := true, laidLooks := .later }
def DocsQueriesCardSaid : Prop := Claim7.holds Tryz.pinned (.plain (OpenSpec.ofChange docsQueriesSpec)) docsQueriesCard

/-- THE TIED CARD OF 'tendrillaw24.DocsFull'. -/
def docsFullCard : Claim7 := { stood := { row := docsFullRow, standIns := [], harness := (true, "72c547fed5e774719475fdd190ff529d2e503c0feb0d0dad986fb4d32265e482"), looks := true }, kinds := [], alts := [], laidByText := true, laidKinds := [.data, .pinned], laidTests := true, laidLooks := .later }
def DocsFullCardSaid : Prop := Claim7.holds Tryz.pinned (.plain (OpenSpec.ofChange docsFullSpec)) docsFullCard

/-- THE TIED CARD OF 'tendrillaw24.DocsRanges'. -/
def docsRangesCard : Claim7 := { stood := { row := docsRangesRow, standIns := [], harness := (true, "72c547fed5e774719475fdd190ff529d2e503c0feb0d0dad986fb4d32265e482"), looks := true }, kinds := [], alts := [], laidByText := true, laidKinds := [.data, .pinned], laidTests := true, laidLooks := .later }
def DocsRangesCardSaid : Prop := Claim7.holds Tryz.pinned (.plain (OpenSpec.ofChange docsRangesSpec)) docsRangesCard

/-- THE TIED CARD OF 'tendrillaw24.DocsLoads'. -/
def docsLoadsCard : Claim7 := { stood := { row := docsLoadsRow, standIns := [], harness := (true, "72c547fed5e774719475fdd190ff529d2e503c0feb0d0dad986fb4d32265e482"), looks := true }, kinds := [], alts := [], laidByText := true, laidKinds := [.data, .pinned], laidTests := true, laidLooks := .later }
def DocsLoadsCardSaid : Prop := Claim7.holds Tryz.pinned (.plain (OpenSpec.ofChange docsLoadsSpec)) docsLoadsCard

/-- THE TIED CARD OF 'tendrillaw24.DocsPlays'. -/
def docsPlaysCard : Claim7 := { stood := { row := docsPlaysRow, standIns := [], harness := (true, "72c547fed5e774719475fdd190ff529d2e503c0feb0d0dad986fb4d32265e482"), looks := true }, kinds := [], alts := [], laidByText := true, laidKinds := [.data, .pinned], laidTests := true, laidLooks := .later }
def DocsPlaysCardSaid : Prop := Claim7.holds Tryz.pinned (.plain (OpenSpec.ofChange docsPlaysSpec)) docsPlaysCard

/-- THE TIED CARD OF 'tendrillaw24.DocsErrors'. -/
def docsErrorsCard : Claim7 := { stood := { row := docsErrorsRow, standIns := [], harness := (true, "72c547fed5e774719475fdd190ff529d2e503c0feb0d0dad986fb4d32265e482"), looks := true }, kinds := [], alts := [], laidByText := true, laidKinds := [.data, .pinned], laidTests := true, laidLooks := .later }
def DocsErrorsCardSaid : Prop := Claim7.holds Tryz.pinned (.plain (OpenSpec.ofChange docsErrorsSpec)) docsErrorsCard

/-- THE TIED CARD OF 'tendrillaw24.DocsUpdates'. -/
def docsUpdatesCard : Claim7 := { stood := { row := docsUpdatesRow, standIns := [], harness := (true, "72c547fed5e774719475fdd190ff529d2e503c0feb0d0dad986fb4d32265e482"), looks := true }, kinds := [], alts := [], laidByText := true, laidKinds := [.data, .pinned], laidTests := true, laidLooks := .later }
def DocsUpdatesCardSaid : Prop := Claim7.holds Tryz.pinned (.plain (OpenSpec.ofChange docsUpdatesSpec)) docsUpdatesCard

/-- THE TIED CARD OF 'tendrillaw24.DocsWays'. -/
def docsWaysCard : Claim7 := { stood := { row := docsWaysRow, standIns := [], harness := (true, "72c547fed5e774719475fdd190ff529d2e503c0feb0d0dad986fb4d32265e482"), looks := true }, kinds := [], alts := [], laidByText := true, laidKinds := [.data, .pinned], laidTests := true, laidLooks := .later }
def DocsWaysCardSaid : Prop := Claim7.holds Tryz.pinned (.plain (OpenSpec.ofChange docsWaysSpec)) docsWaysCard

/-- THE SECOND FORM's CARD OF 'tendrillaw24.DocsRuns'. -/
def docsRunsUptoCard : Claim7 := { stood := { row := docsRunsUptoRow, standIns := [], harness := (true, "72c547fed5e774719475fdd190ff529d2e503c0feb0d0dad986fb4d32265e482"), looks := true }, kinds := [], alts := [], laidByText := true, laidKinds := [.data, .pinned], laidTests := true, laidLooks := .later }
def DocsRunsUptoCardSaid : Prop := Claim7.holds Tryz.pinned (.plain (OpenSpec.upto docsRunsSpec)) docsRunsUptoCard

/-- THE SECOND FORM's CARD OF 'tendrillaw24.DocsQueries'. -/
def docsQueriesUptoCard : Claim7 := { stood := { row := docsQueriesUptoRow, standIns := [], harness := (true, "72c547fed5e774719475fdd190ff529d2e503c0feb0d0dad986fb4d32265e482"), looks := true }, kinds := [], alts := [], laidByText := true, laidKinds := [.data, .pinned], laidTests := true, laidLooks := .later }
def DocsQueriesUptoCardSaid : Prop := Claim7.holds Tryz.pinned (.plain (OpenSpec.upto docsQueriesSpec)) docsQueriesUptoCard

/-- THE SECOND FORM's CARD OF 'tendrillaw24.DocsFull'. -/
def docsFullUptoCard : Claim7 := { stood := { row := docsFullUptoRow, standIns := [], harness := (true, "72c547fed5e774719475fdd190ff529d2e503c0feb0d0dad986fb4d32265e482"), looks := true }, kinds := [], alts := [], laidByText := true, laidKinds := [.data, .pinned], laidTests := true, laidLooks := .later }
def DocsFullUptoCardSaid : Prop := Claim7.holds Tryz.pinned (.plain (OpenSpec.upto docsFullSpec)) docsFullUptoCard

/-- THE SECOND FORM's CARD OF 'tendrillaw24.DocsRanges'. -/
def docsRangesUptoCard : Claim7 := { stood := { row := docsRangesUptoRow, standIns := [], harness := (true, "72c547fed5e774719475fdd190ff529d2e503c0feb0d0dad986fb4d32265e482"), looks := true }, kinds := [], alts := [], laidByText := true, laidKinds := [.data, .pinned], laidTests := true, laidLooks := .later }
def DocsRangesUptoCardSaid : Prop := Claim7.holds Tryz.pinned (.plain (OpenSpec.upto docsRangesSpec)) docsRangesUptoCard

/-- THE SECOND FORM's CARD OF 'tendrillaw24.DocsLoads'. -/
def docsLoadsUptoCard : Claim7 := { stood := { row := docsLoadsUptoRow, standIns := [], harness := (true, "72c547fed5e774719475fdd190ff529d2e503c0feb0d0dad986fb4d32265e482"), looks := true }, kinds := [], alts := [], laidByText := true, laidKinds := [.data, .pinned], laidTests := true, laidLooks := .later }
def DocsLoadsUptoCardSaid : Prop := Claim7.holds Tryz.pinned (.plain (OpenSpec.upto docsLoadsSpec)) docsLoadsUptoCard

/-- THE SECOND FORM's CARD OF 'tendrillaw24.DocsPlays'. -/
def docsPlaysUptoCard : Claim7 := { stood := { row := docsPlaysUptoRow, standIns := [], harness := (true, "72c547fed5e774719475fdd190ff529d2e503c0feb0d0dad986fb4d32265e482"), looks := true }, kinds := [], alts := [], laidByText := true, laidKinds := [.data, .pinned], laidTests := true, laidLooks := .later }
def DocsPlaysUptoCardSaid : Prop := Claim7.holds Tryz.pinned (.plain (OpenSpec.upto docsPlaysSpec)) docsPlaysUptoCard

/-- THE SECOND FORM's CARD OF 'tendrillaw24.DocsErrors'. -/
def docsErrorsUptoCard : Claim7 := { stood := { row := docsErrorsUptoRow, standIns := [], harness := (true, "72c547fed5e774719475fdd190ff529d2e503c0feb0d0dad986fb4d32265e482"), looks := true }, kinds := [], alts := [], laidByText := true, laidKinds := [.data, .pinned], laidTests := true, laidLooks := .later }
def DocsErrorsUptoCardSaid : Prop := Claim7.holds Tryz.pinned (.plain (OpenSpec.upto docsErrorsSpec)) docsErrorsUptoCard

/-- THE SECOND FORM's CARD OF 'tendrillaw24.DocsUpdates'. -/
def docsUpdatesUptoCard : Claim7 := { stood := { row := docsUpdatesUptoRow, standIns := [], harness := (true, "72c547fed5e774719475fdd190ff529d2e503c0feb0d0dad986fb4d32265e482"), looks := true }, kinds := [], alts := [], laidByText := true, laidKinds := [.data, .pinned], laidTests := true, laidLooks := .later }
def DocsUpdatesUptoCardSaid : Prop := Claim7.holds Tryz.pinned (.plain (OpenSpec.upto docsUpdatesSpec)) docsUpdatesUptoCard

/-- THE SECOND FORM's CARD OF 'tendrillaw24.DocsWays'. -/
def docsWaysUptoCard : Claim7 := { stood := { row := docsWaysUptoRow, standIns := [], harness := (true, "72c547fed5e774719475fdd190ff529d2e503c0feb0d0dad986fb4d32265e482"), looks := true }, kinds := [], alts := [], laidByText := true, laidKinds := [.data, .pinned], laidTests := true, laidLooks := .later }
def DocsWaysUptoCardSaid : Prop := Claim7.holds Tryz.pinned (.plain (OpenSpec.upto docsWaysSpec)) docsWaysUptoCard
end Rows
end Go.Proofs.YtakgcpmemalmaaaGreatDoor
