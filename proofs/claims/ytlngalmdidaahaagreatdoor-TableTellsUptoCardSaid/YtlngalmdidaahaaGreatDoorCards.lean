/-
  DERIVED. GIVEN WITH THE SEED: THE CARDS: each row of YtlngalmdidaahaaGreatDoorRows.lean that lists a variable, with what it lists TIED to the program's text (the seventh form; the later family's looks); each row that meets fmt, with fmt's text TOLD by the authors' own Lean function (tested against real Go, not proved from fmt's source: count such statements apart). THE CARD IS WHAT COUNTS. Prove the row's statement (the work); the ties are given (YtlngalmdidaahaaGreatDoorTie.lean); close each card by the builder's one call (the guide's Derived/Test/ToyasCard.lean, 'card_holds'). Laid BY PROGRAM, IN A SANDBOX (cutbox-door.mjs). By AI agents, Wed Nov 11 2026. No macro, syntax, notation, axiom, sorry.
-/
import Derived.Test.YtlngalmdidaahaaGreatDoorRows
import GoSem.ClaimSeven
namespace Go.Proofs.YtlngalmdidaahaaGreatDoor
namespace Rows

/-- THE TIED CARD OF 'gnomonlaw.OffTells'. -/
def offTellsCard : Claim7 := { stood := { row := offTellsRow, standIns := [], harness := (true, "4e7f3d12eb69a9bd025c9f59e28ff388a13d61e4e567aca350bbb498176eedd9"), looks := true }, kinds := [], alts := [], laidByText := true, laidKinds := [.data, .pinned], laidTests := true, laidLooks := .later }
def OffTellsCardSaid : Prop := Claim7.holds Tryz.pinned (.plain (OpenSpec.ofChange offTellsSpec)) offTellsCard

/-- THE TIED CARD OF 'gnomonlaw.TableTells'. -/
def tableTellsCard : Claim7 := { stood := { row := tableTellsRow, standIns := [], harness := (true, "4e7f3d12eb69a9bd025c9f59e28ff388a13d61e4e567aca350bbb498176eedd9"), looks := true }, kinds := [], alts := [], laidByText := true, laidKinds := [.data, .pinned], laidTests := true, laidLooks := .later }
def TableTellsCardSaid : Prop := Claim7.holds Tryz.pinned (.plain (OpenSpec.ofChange tableTellsSpec)) tableTellsCard

/-- THE TIED CARD OF 'gnomonlaw.TableMost'. -/
def tableMostCard : Claim7 := { stood := { row := tableMostRow, standIns := [], harness := (true, "4e7f3d12eb69a9bd025c9f59e28ff388a13d61e4e567aca350bbb498176eedd9"), looks := true }, kinds := [], alts := [], laidByText := true, laidKinds := [.data, .pinned], laidTests := true, laidLooks := .later }
def TableMostCardSaid : Prop := Claim7.holds Tryz.pinned (.plain (OpenSpec.ofChange tableMostSpec)) tableMostCard

/-- THE TIED CARD OF 'gnomonlaw.TableSame'. -/
def tableSameCard : Claim7 := { stood := { row := tableSameRow, standIns := [], harness := (true, "4e7f3d12eb69a9bd025c9f59e28ff388a13d61e4e567aca350bbb498176eedd9"), looks := true }, kinds := [], alts := [], laidByText := true, laidKinds := [.data, .pinned], laidTests := true, laidLooks := .later }
def TableSameCardSaid : Prop := Claim7.holds Tryz.pinned (.plain (OpenSpec.ofChange tableSameSpec)) tableSameCard

/-- THE TIED CARD OF 'gnomonlaw.TableTurns'. -/
def tableTurnsCard : Claim7 := { stood := { row := tableTurnsRow, standIns := [], harness := (true, "4e7f3d12eb69a9bd025c9f59e28ff388a13d61e4e567aca350bbb498176eedd9"), looks := true }, kinds := [], alts := [], laidByText := true, laidKinds := [.data, .pinned], laidTests := true, laidLooks := .later }
def TableTurnsCardSaid : Prop := Claim7.holds Tryz.pinned (.plain (OpenSpec.ofChange tableTurnsSpec)) tableTurnsCard

/-- THE TIED CARD OF 'gnomonlaw.SourceShows'. -/
def sourceShowsCard : Claim7 := { stood := { row := sourceShowsRow, standIns := [], harness := (true, "4e7f3d12eb69a9bd025c9f59e28ff388a13d61e4e567aca350bbb498176eedd9"), looks := true }, kinds := [], alts := [], laidByText := true, laidKinds := [.data, .data, .data, .data, .sentinel, .sentinel, .pinned], laidTests := true, laidLooks := .later }
def SourceShowsCardSaid : Prop := Claim7.holds Tryz.pinned (.plain (OpenSpec.ofChange sourceShowsSpec)) sourceShowsCard

/-- THE TIED CARD OF 'gnomonlaw.SourceBack'. -/
def sourceBackCard : Claim7 := { stood := { row := sourceBackRow, standIns := [], harness := (true, "4e7f3d12eb69a9bd025c9f59e28ff388a13d61e4e567aca350bbb498176eedd9"), looks := true }, kinds := [], alts := [], laidByText := true, laidKinds := [.data, .data, .data, .data, .sentinel, .sentinel, .pinned], laidTests := true, laidLooks := .later }
def SourceBackCardSaid : Prop := Claim7.holds Tryz.pinned (.plain (OpenSpec.ofChange sourceBackSpec)) sourceBackCard

/-- THE SECOND FORM's CARD OF 'gnomonlaw.OffTells'. -/
def offTellsUptoCard : Claim7 := { stood := { row := offTellsUptoRow, standIns := [], harness := (true, "4e7f3d12eb69a9bd025c9f59e28ff388a13d61e4e567aca350bbb498176eedd9"), looks := true }, kinds := [], alts := [], laidByText := true, laidKinds := [.data, .pinned], laidTests := true, laidLooks := .later }
def OffTellsUptoCardSaid : Prop := Claim7.holds Tryz.pinned (.plain (OpenSpec.upto offTellsSpec)) offTellsUptoCard

/-- THE SECOND FORM's CARD OF 'gnomonlaw.TableTells'. -/
def tableTellsUptoCard : Claim7 := { stood := { row := tableTellsUptoRow, standIns := [], harness := (true, "4e7f3d12eb69a9bd025c9f59e28ff388a13d61e4e567aca350bbb498176eedd9"), looks := true }, kinds := [], alts := [], laidByText := true, laidKinds := [.data, .pinned], laidTests := true, laidLooks := .later }
def TableTellsUptoCardSaid : Prop := Claim7.holds Tryz.pinned (.plain (OpenSpec.upto tableTellsSpec)) tableTellsUptoCard

/-- THE SECOND FORM's CARD OF 'gnomonlaw.TableMost'. -/
def tableMostUptoCard : Claim7 := { stood := { row := tableMostUptoRow, standIns := [], harness := (true, "4e7f3d12eb69a9bd025c9f59e28ff388a13d61e4e567aca350bbb498176eedd9"), looks := true }, kinds := [], alts := [], laidByText := true, laidKinds := [.data, .pinned], laidTests := true, laidLooks := .later }
def TableMostUptoCardSaid : Prop := Claim7.holds Tryz.pinned (.plain (OpenSpec.upto tableMostSpec)) tableMostUptoCard

/-- THE SECOND FORM's CARD OF 'gnomonlaw.TableSame'. -/
def tableSameUptoCard : Claim7 := { stood := { row := tableSameUptoRow, standIns := [], harness := (true, "4e7f3d12eb69a9bd025c9f59e28ff388a13d61e4e567aca350bbb498176eedd9"), looks := true }, kinds := [], alts := [], laidByText := true, laidKinds := [.data, .pinned], laidTests := true, laidLooks := .later }
def TableSameUptoCardSaid : Prop := Claim7.holds Tryz.pinned (.plain (OpenSpec.upto tableSameSpec)) tableSameUptoCard

/-- THE SECOND FORM's CARD OF 'gnomonlaw.TableTurns'. -/
def tableTurnsUptoCard : Claim7 := { stood := { row := tableTurnsUptoRow, standIns := [], harness := (true, "4e7f3d12eb69a9bd025c9f59e28ff388a13d61e4e567aca350bbb498176eedd9"), looks := true }, kinds := [], alts := [], laidByText := true, laidKinds := [.data, .pinned], laidTests := true, laidLooks := .later }
def TableTurnsUptoCardSaid : Prop := Claim7.holds Tryz.pinned (.plain (OpenSpec.upto tableTurnsSpec)) tableTurnsUptoCard

/-- THE SECOND FORM's CARD OF 'gnomonlaw.SourceShows'. -/
def sourceShowsUptoCard : Claim7 := { stood := { row := sourceShowsUptoRow, standIns := [], harness := (true, "4e7f3d12eb69a9bd025c9f59e28ff388a13d61e4e567aca350bbb498176eedd9"), looks := true }, kinds := [], alts := [], laidByText := true, laidKinds := [.data, .data, .data, .data, .sentinel, .sentinel, .pinned], laidTests := true, laidLooks := .later }
def SourceShowsUptoCardSaid : Prop := Claim7.holds Tryz.pinned (.plain (OpenSpec.upto sourceShowsSpec)) sourceShowsUptoCard

/-- THE SECOND FORM's CARD OF 'gnomonlaw.SourceBack'. -/
def sourceBackUptoCard : Claim7 := { stood := { row := sourceBackUptoRow, standIns := [], harness := (true, "4e7f3d12eb69a9bd025c9f59e28ff388a13d61e4e567aca350bbb498176eedd9"), looks := true }, kinds := [], alts := [], laidByText := true, laidKinds := [.data, .data, .data, .data, .sentinel, .sentinel, .pinned], laidTests := true, laidLooks := .later }
def SourceBackUptoCardSaid : Prop := Claim7.holds Tryz.pinned (.plain (OpenSpec.upto sourceBackSpec)) sourceBackUptoCard
end Rows
end Go.Proofs.YtlngalmdidaahaaGreatDoor
