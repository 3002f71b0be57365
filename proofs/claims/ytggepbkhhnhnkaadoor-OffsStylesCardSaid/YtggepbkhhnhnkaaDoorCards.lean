/-
  DERIVED. GIVEN WITH THE SEED: THE CARDS: each row of YtggepbkhhnhnkaaDoorRows.lean that lists a variable, with what it lists TIED to the program's text (the seventh form; the later family's looks); each row that meets fmt, with fmt's text TOLD by the authors' own Lean function (tested against real Go, not proved from fmt's source: count such statements apart). THE CARD IS WHAT COUNTS. Prove the row's statement (the work); the ties are given (YtggepbkhhnhnkaaDoorTie.lean); close each card by the builder's one call (the guide's Derived/Test/ToyasCard.lean, 'card_holds'). Laid BY PROGRAM, IN A SANDBOX (cutbox-door.mjs). By AI agents, Wed Nov 11 2026. No macro, syntax, notation, axiom, sorry.
-/
import Derived.Test.YtggepbkhhnhnkaaDoorRows
import GoSem.ClaimSeven
namespace Go.Proofs.YtggepbkhhnhnkaaDoor
namespace Rows

/-- THE TIED CARD OF 'gnomonlaw.OffsTells'. -/
def offsTellsCard : Claim7 := { stood := { row := offsTellsRow, standIns := [], harness := (true, "c38ba2fb4581c43e9667107ef0a8b80dd1798862b6c6f96854c39d7e6ab53389"), looks := true }, kinds := [], alts := [], laidByText := true, laidKinds := [.data, .data, .data, .sentinel, .sentinel], laidTests := true, laidLooks := .later }
def OffsTellsCardSaid : Prop := Claim7.holds Tryd.pinned (.plain (OpenSpec.ofChange offsTellsSpec)) offsTellsCard

/-- THE TIED CARD OF 'gnomonlaw.OffsBack'. -/
def offsBackCard : Claim7 := { stood := { row := offsBackRow, standIns := [], harness := (true, "c38ba2fb4581c43e9667107ef0a8b80dd1798862b6c6f96854c39d7e6ab53389"), looks := true }, kinds := [], alts := [], laidByText := true, laidKinds := [.data, .data, .data, .sentinel, .sentinel], laidTests := true, laidLooks := .later }
def OffsBackCardSaid : Prop := Claim7.holds Tryd.pinned (.plain (OpenSpec.ofChange offsBackSpec)) offsBackCard

/-- THE TIED CARD OF 'gnomonlaw.OffsStyles'. -/
def offsStylesCard : Claim7 := { stood := { row := offsStylesRow, standIns := [], harness := (true, "c38ba2fb4581c43e9667107ef0a8b80dd1798862b6c6f96854c39d7e6ab53389"), looks := true }, kinds := [], alts := [], laidByText := true, laidKinds := [.data, .data, .data, .sentinel, .sentinel], laidTests := true, laidLooks := .later }
def OffsStylesCardSaid : Prop := Claim7.holds Tryd.pinned (.plain (OpenSpec.ofChange offsStylesSpec)) offsStylesCard

/-- THE SECOND FORM's CARD OF 'gnomonlaw.OffsTells'. -/
def offsTellsUptoCard : Claim7 := { stood := { row := offsTellsUptoRow, standIns := [], harness := (true, "c38ba2fb4581c43e9667107ef0a8b80dd1798862b6c6f96854c39d7e6ab53389"), looks := true }, kinds := [], alts := [], laidByText := true, laidKinds := [.data, .data, .data, .sentinel, .sentinel], laidTests := true, laidLooks := .later }
def OffsTellsUptoCardSaid : Prop := Claim7.holds Tryd.pinned (.plain (OpenSpec.upto offsTellsSpec)) offsTellsUptoCard

/-- THE SECOND FORM's CARD OF 'gnomonlaw.OffsBack'. -/
def offsBackUptoCard : Claim7 := { stood := { row := offsBackUptoRow, standIns := [], harness := (true, "c38ba2fb4581c43e9667107ef0a8b80dd1798862b6c6f96854c39d7e6ab53389"), looks := true }, kinds := [], alts := [], laidByText := true, laidKinds := [.data, .data, .data, .sentinel, .sentinel], laidTests := true, laidLooks := .later }
def OffsBackUptoCardSaid : Prop := Claim7.holds Tryd.pinned (.plain (OpenSpec.upto offsBackSpec)) offsBackUptoCard

/-- THE SECOND FORM's CARD OF 'gnomonlaw.OffsStyles'. -/
def offsStylesUptoCard : Claim7 := { stood := { row := offsStylesUptoRow, standIns := [], harness := (true, "c38ba2fb4581c43e9667107ef0a8b80dd1798862b6c6f96854c39d7e6ab53389"), looks := true }, kinds := [], alts := [], laidByText := true, laidKinds := [.data, .data, .data, .sentinel, .sentinel], laidTests := true, laidLooks := .later }
def OffsStylesUptoCardSaid : Prop := Claim7.holds Tryd.pinned (.plain (OpenSpec.upto offsStylesSpec)) offsStylesUptoCard
end Rows
end Go.Proofs.YtggepbkhhnhnkaaDoor
