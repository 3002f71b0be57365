/-
  DERIVED. GIVEN WITH THE SEED: THE CARDS: each row of YtbbbeldbhlehnaaGreatDoorRows.lean that lists a variable, with what it lists TIED to the program's text (the seventh form; the later family's looks); each row that meets fmt, with fmt's text TOLD by the authors' own Lean function (tested against real Go, not proved from fmt's source: count such statements apart). THE CARD IS WHAT COUNTS. Prove the row's statement (the work); the ties are given (YtbbbeldbhlehnaaGreatDoorTie.lean); close each card by the builder's one call (the guide's Derived/Test/ToyasCard.lean, 'card_holds'). Laid BY PROGRAM, IN A SANDBOX (cutbox-door.mjs). By AI agents, Wed Nov 11 2026. No macro, syntax, notation, axiom, sorry.
-/
import Derived.Test.YtbbbeldbhlehnaaGreatDoorRows
import GoSem.ClaimSeven
namespace Go.Proofs.YtbbbeldbhlehnaaGreatDoor
namespace Rows

/-- THE TIED CARD OF 'gnomonlaw.NamesTells'. -/
def namesTellsCard : Claim7 := { stood := { row := namesTellsRow, standIns := [], harness := (true, "cb98be71661584229618a56866224fffa1b3f269bb0e86fa36fd9a1958a867a4"), looks := true }, kinds := [], alts := [], laidByText := true, laidKinds := [.data, .data, .data, .data, .pinned], laidTests := true, laidLooks := .later }
def NamesTellsCardSaid : Prop := Claim7.holds Tryz.pinned (.plain (OpenSpec.ofChange namesTellsSpec)) namesTellsCard

/-- THE TIED CARD OF 'gnomonlaw.NamesHeir'. -/
def namesHeirCard : Claim7 := { stood := { row := namesHeirRow, standIns := [], harness := (true, "cb98be71661584229618a56866224fffa1b3f269bb0e86fa36fd9a1958a867a4"), looks := true }, kinds := [], alts := [], laidByText := true, laidKinds := [.data, .data, .data, .data, .pinned], laidTests := true, laidLooks := .later }
def NamesHeirCardSaid : Prop := Claim7.holds Tryz.pinned (.plain (OpenSpec.ofChange namesHeirSpec)) namesHeirCard

/-- THE TIED CARD OF 'gnomonlaw.NamesOff'. -/
def namesOffCard : Claim7 := { stood := { row := namesOffRow, standIns := [], harness := (true, "cb98be71661584229618a56866224fffa1b3f269bb0e86fa36fd9a1958a867a4"), looks := true }, kinds := [], alts := [], laidByText := true, laidKinds := [.data, .data, .data, .data, .pinned], laidTests := true, laidLooks := .later }
def NamesOffCardSaid : Prop := Claim7.holds Tryz.pinned (.plain (OpenSpec.ofChange namesOffSpec)) namesOffCard

/-- THE TIED CARD OF 'gnomonlaw.NamesTrue'. -/
def namesTrueCard : Claim7 := { stood := { row := namesTrueRow, standIns := [], harness := (true, "cb98be71661584229618a56866224fffa1b3f269bb0e86fa36fd9a1958a867a4"), looks := true }, kinds := [], alts := [], laidByText := true, laidKinds := [.data, .data, .data, .data, .sentinel, .sentinel, .pinned], laidTests := true, laidLooks := .later }
def NamesTrueCardSaid : Prop := Claim7.holds Tryz.pinned (.plain (OpenSpec.ofChange namesTrueSpec)) namesTrueCard

/-- THE TIED CARD OF 'gnomonlaw.BackTells'. -/
def backTellsCard : Claim7 := { stood := { row := backTellsRow, standIns := [], harness := (true, "cb98be71661584229618a56866224fffa1b3f269bb0e86fa36fd9a1958a867a4"), looks := true }, kinds := [], alts := [], laidByText := true, laidKinds := [.data, .data, .data, .data, .pinned], laidTests := true, laidLooks := .later }
def BackTellsCardSaid : Prop := Claim7.holds Tryz.pinned (.plain (OpenSpec.ofChange backTellsSpec)) backTellsCard

/-- THE TIED CARD OF 'gnomonlaw.BackTrue'. -/
def backTrueCard : Claim7 := { stood := { row := backTrueRow, standIns := [], harness := (true, "cb98be71661584229618a56866224fffa1b3f269bb0e86fa36fd9a1958a867a4"), looks := true }, kinds := [], alts := [], laidByText := true, laidKinds := [.data, .data, .data, .data, .pinned], laidTests := true, laidLooks := .later }
def BackTrueCardSaid : Prop := Claim7.holds Tryz.pinned (.plain (OpenSpec.ofChange backTrueSpec)) backTrueCard

/-- THE TIED CARD OF 'gnomonlaw.BackIds'. -/
def backIdsCard : Claim7 := { stood := { row := backIdsRow, standIns := [], harness := (true, "cb98be71661584229618a56866224fffa1b3f269bb0e86fa36fd9a1958a867a4"), looks := true }, kinds := [], alts := [], laidByText := true, laidKinds := [.data, .data, .data, .data, .pinned], laidTests := true, laidLooks := .later }
def BackIdsCardSaid : Prop := Claim7.holds Tryz.pinned (.plain (OpenSpec.ofChange backIdsSpec)) backIdsCard

/-- THE TIED CARD OF 'gnomonlaw.RestWorlds'. -/
def restWorldsCard : Claim7 := { stood := { row := restWorldsRow, standIns := [], harness := (true, "cb98be71661584229618a56866224fffa1b3f269bb0e86fa36fd9a1958a867a4"), looks := true }, kinds := [], alts := [], laidByText := true, laidKinds := [.data, .data, .data, .data, .pinned], laidTests := true, laidLooks := .later }
def RestWorldsCardSaid : Prop := Claim7.holds Tryz.pinned (.plain (OpenSpec.ofChange restWorldsSpec)) restWorldsCard

/-- THE SECOND FORM's CARD OF 'gnomonlaw.NamesTells'. -/
def namesTellsUptoCard : Claim7 := { stood := { row := namesTellsUptoRow, standIns := [], harness := (true, "cb98be71661584229618a56866224fffa1b3f269bb0e86fa36fd9a1958a867a4"), looks := true }, kinds := [], alts := [], laidByText := true, laidKinds := [.data, .data, .data, .data, .pinned], laidTests := true, laidLooks := .later }
def NamesTellsUptoCardSaid : Prop := Claim7.holds Tryz.pinned (.plain (OpenSpec.upto namesTellsSpec)) namesTellsUptoCard

/-- THE SECOND FORM's CARD OF 'gnomonlaw.NamesHeir'. -/
def namesHeirUptoCard : Claim7 := { stood := { row := namesHeirUptoRow, standIns := [], harness := (true, "cb98be71661584229618a56866224fffa1b3f269bb0e86fa36fd9a1958a867a4"), looks := true }, kinds := [], alts := [], laidByText := true, laidKinds := [.data, .data, .data, .data, .pinned], laidTests := true, laidLooks := .later }
def NamesHeirUptoCardSaid : Prop := Claim7.holds Tryz.pinned (.plain (OpenSpec.upto namesHeirSpec)) namesHeirUptoCard

/-- THE SECOND FORM's CARD OF 'gnomonlaw.NamesOff'. -/
def namesOffUptoCard : Claim7 := { stood := { row := namesOffUptoRow, standIns := [], harness := (true, "cb98be71661584229618a56866224fffa1b3f269bb0e86fa36fd9a1958a867a4"), looks := true }, kinds := [], alts := [], laidByText := true, laidKinds := [.data, .data, .data, .data, .pinned], laidTests := true, laidLooks := .later }
def NamesOffUptoCardSaid : Prop := Claim7.holds Tryz.pinned (.plain (OpenSpec.upto namesOffSpec)) namesOffUptoCard

/-- THE SECOND FORM's CARD OF 'gnomonlaw.NamesTrue'. -/
def namesTrueUptoCard : Claim7 := { stood := { row := namesTrueUptoRow, standIns := [], harness := (true, "cb98be71661584229618a56866224fffa1b3f269bb0e86fa36fd9a1958a867a4"), looks := true }, kinds := [], alts := [], laidByText := true, laidKinds := [.data, .data, .data, .data, .sentinel, .sentinel, .pinned], laidTests := true, laidLooks := .later }
def NamesTrueUptoCardSaid : Prop := Claim7.holds Tryz.pinned (.plain (OpenSpec.upto namesTrueSpec)) namesTrueUptoCard

/-- THE SECOND FORM's CARD OF 'gnomonlaw.BackTells'. -/
def backTellsUptoCard : Claim7 := { stood := { row := backTellsUptoRow, standIns := [], harness := (true, "cb98be71661584229618a56866224fffa1b3f269bb0e86fa36fd9a1958a867a4"), looks := true }, kinds := [], alts := [], laidByText := true, laidKinds := [.data, .data, .data, .data, .pinned], laidTests := true, laidLooks := .later }
def BackTellsUptoCardSaid : Prop := Claim7.holds Tryz.pinned (.plain (OpenSpec.upto backTellsSpec)) backTellsUptoCard

/-- THE SECOND FORM's CARD OF 'gnomonlaw.BackTrue'. -/
def backTrueUptoCard : Claim7 := { stood := { row := backTrueUptoRow, standIns := [], harness := (true, "cb98be71661584229618a56866224fffa1b3f269bb0e86fa36fd9a1958a867a4"), looks := true }, kinds := [], alts := [], laidByText := true, laidKinds := [.data, .data, .data, .data, .pinned], laidTests := true, laidLooks := .later }
def BackTrueUptoCardSaid : Prop := Claim7.holds Tryz.pinned (.plain (OpenSpec.upto backTrueSpec)) backTrueUptoCard

/-- THE SECOND FORM's CARD OF 'gnomonlaw.BackIds'. -/
def backIdsUptoCard : Claim7 := { stood := { row := backIdsUptoRow, standIns := [], harness := (true, "cb98be71661584229618a56866224fffa1b3f269bb0e86fa36fd9a1958a867a4"), looks := true }, kinds := [], alts := [], laidByText := true, laidKinds := [.data, .data, .data, .data, .pinned], laidTests := true, laidLooks := .later }
def BackIdsUptoCardSaid : Prop := Claim7.holds Tryz.pinned (.plain (OpenSpec.upto backIdsSpec)) backIdsUptoCard

/-- THE SECOND FORM's CARD OF 'gnomonlaw.RestWorlds'. -/
def restWorldsUptoCard : Claim7 := { stood := { row := restWorldsUptoRow, standIns := [], harness := (true, "cb98be71661584229618a56866224fffa1b3f269bb0e86fa36fd9a1958a867a4"), looks := true }, kinds := [], alts := [], laidByText := true, laidKinds := [.data, .data, .data, .data, .pinned], laidTests := true, laidLooks := .later }
def RestWorldsUptoCardSaid : Prop := Claim7.holds Tryz.pinned (.plain (OpenSpec.upto restWorldsSpec)) restWorldsUptoCard
end Rows
end Go.Proofs.YtbbbeldbhlehnaaGreatDoor
