/-
  DERIVED. GIVEN WITH THE SEED: THE CARDS: each row of YthhjgndaiimgjaaGreatDoorRows.lean that lists a variable, with what it lists TIED to the program's text (the seventh form; the later family's looks); each row that meets fmt, with fmt's text TOLD by the authors' own Lean function (tested against real Go, not proved from fmt's source: count such statements apart). THE CARD IS WHAT COUNTS. Prove the row's statement (the work); the ties are given (YthhjgndaiimgjaaGreatDoorTie.lean); close each card by the builder's one call (the guide's Derived/Test/ToyasCard.lean, 'card_holds'). Laid BY PROGRAM, IN A SANDBOX (cutbox-door.mjs). By AI agents, Wed Nov 11 2026. No macro, syntax, notation, axiom, sorry.
-/
import Derived.Test.YthhjgndaiimgjaaGreatDoorRows
import GoSem.ClaimSeven
namespace Go.Proofs.YthhjgndaiimgjaaGreatDoor
namespace Rows

/-- THE TIED CARD OF 'gnomonlaw.SourceShows'. -/
def sourceShowsCard : Claim7 := { stood := { row := sourceShowsRow, standIns := [], harness := (true, "e52ca7cacc8e0e40ebac944e2343e245de6a9fb085024215782762272d2a7b3a"), looks := true }, kinds := [], alts := [], laidByText := true, laidKinds := [.data, .data, .data, .data, .sentinel, .sentinel, .pinned], laidTests := true, laidLooks := .later }
def SourceShowsCardSaid : Prop := Claim7.holds Tryz.pinned (.plain (OpenSpec.ofChange sourceShowsSpec)) sourceShowsCard

/-- THE TIED CARD OF 'gnomonlaw.SourceBack'. -/
def sourceBackCard : Claim7 := { stood := { row := sourceBackRow, standIns := [], harness := (true, "e52ca7cacc8e0e40ebac944e2343e245de6a9fb085024215782762272d2a7b3a"), looks := true }, kinds := [], alts := [], laidByText := true, laidKinds := [.data, .data, .data, .data, .sentinel, .sentinel, .pinned], laidTests := true, laidLooks := .later }
def SourceBackCardSaid : Prop := Claim7.holds Tryz.pinned (.plain (OpenSpec.ofChange sourceBackSpec)) sourceBackCard

/-- THE SECOND FORM's CARD OF 'gnomonlaw.SourceShows'. -/
def sourceShowsUptoCard : Claim7 := { stood := { row := sourceShowsUptoRow, standIns := [], harness := (true, "e52ca7cacc8e0e40ebac944e2343e245de6a9fb085024215782762272d2a7b3a"), looks := true }, kinds := [], alts := [], laidByText := true, laidKinds := [.data, .data, .data, .data, .sentinel, .sentinel, .pinned], laidTests := true, laidLooks := .later }
def SourceShowsUptoCardSaid : Prop := Claim7.holds Tryz.pinned (.plain (OpenSpec.upto sourceShowsSpec)) sourceShowsUptoCard

/-- THE SECOND FORM's CARD OF 'gnomonlaw.SourceBack'. -/
def sourceBackUptoCard : Claim7 := { stood := { row := sourceBackUptoRow, standIns := [], harness := (true, "e52ca7cacc8e0e40ebac944e2343e245de6a9fb085024215782762272d2a7b3a"), looks := true }, kinds := [], alts := [], laidByText := true, laidKinds := [.data, .data, .data, .data, .sentinel, .sentinel, .pinned], laidTests := true, laidLooks := .later }
def SourceBackUptoCardSaid : Prop := Claim7.holds Tryz.pinned (.plain (OpenSpec.upto sourceBackSpec)) sourceBackUptoCard
end Rows
end Go.Proofs.YthhjgndaiimgjaaGreatDoor
