/-
  DERIVED. GIVEN WITH THE SEED: THE CARDS: each row of YtlngalmdidaahaaDoorRows.lean that lists a variable, with what it lists TIED to the program's text (the seventh form; the later family's looks); each row that meets fmt, with fmt's text TOLD by the authors' own Lean function (tested against real Go, not proved from fmt's source: count such statements apart). THE CARD IS WHAT COUNTS. Prove the row's statement (the work); the ties are given (YtlngalmdidaahaaDoorTie.lean); close each card by the builder's one call (the guide's Derived/Test/ToyasCard.lean, 'card_holds'). Laid BY PROGRAM, IN A SANDBOX (cutbox-door.mjs). By AI agents, Wed Nov 11 2026. No macro, syntax, notation, axiom, sorry.
-/
import Derived.Test.YtlngalmdidaahaaDoorRows
import GoSem.ClaimSeven
namespace Go.Proofs.YtlngalmdidaahaaDoor
namespace Rows

/-- THE TIED CARD OF 'gnomonlaw.OffTrue'. -/
def offTrueCard : Claim7 := { stood := { row := offTrueRow, standIns := [], harness := (true, "e412dc6d5b600cb9920e1d449c12d3ee8d3da1a4911d47667c899d6ef95a6bc7"), looks := true }, kinds := [], alts := [], laidByText := true, laidKinds := [.data, .pinned], laidTests := true, laidLooks := .later }
def OffTrueCardSaid : Prop := Claim7.holds Tryd.pinned (.plain (OpenSpec.ofChange offTrueSpec)) offTrueCard

/-- THE TIED CARD OF 'gnomonlaw.OffBare'. -/
def offBareCard : Claim7 := { stood := { row := offBareRow, standIns := [], harness := (true, "e412dc6d5b600cb9920e1d449c12d3ee8d3da1a4911d47667c899d6ef95a6bc7"), looks := true }, kinds := [], alts := [], laidByText := true, laidKinds := [.data, .pinned], laidTests := true, laidLooks := .later }
def OffBareCardSaid : Prop := Claim7.holds Tryd.pinned (.plain (OpenSpec.ofChange offBareSpec)) offBareCard

/-- THE SECOND FORM's CARD OF 'gnomonlaw.OffTrue'. -/
def offTrueUptoCard : Claim7 := { stood := { row := offTrueUptoRow, standIns := [], harness := (true, "e412dc6d5b600cb9920e1d449c12d3ee8d3da1a4911d47667c899d6ef95a6bc7"), looks := true }, kinds := [], alts := [], laidByText := true, laidKinds := [.data, .pinned], laidTests := true, laidLooks := .later }
def OffTrueUptoCardSaid : Prop := Claim7.holds Tryd.pinned (.plain (OpenSpec.upto offTrueSpec)) offTrueUptoCard

/-- THE SECOND FORM's CARD OF 'gnomonlaw.OffBare'. -/
def offBareUptoCard : Claim7 := { stood := { row := offBareUptoRow, standIns := [], harness := (true, "e412dc6d5b600cb9920e1d449c12d3ee8d3da1a4911d47667c899d6ef95a6bc7"), looks := true }, kinds := [], alts := [], laidByText := true, laidKinds := [.data, .pinned], laidTests := true, laidLooks := .later }
def OffBareUptoCardSaid : Prop := Claim7.holds Tryd.pinned (.plain (OpenSpec.upto offBareSpec)) offBareUptoCard
end Rows
end Go.Proofs.YtlngalmdidaahaaDoor
