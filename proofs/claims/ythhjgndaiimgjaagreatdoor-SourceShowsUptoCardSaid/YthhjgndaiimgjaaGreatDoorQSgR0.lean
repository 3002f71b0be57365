/- The reference's reader: its regions. -/
import Derived.Test.YthhjgndaiimgjaaGreatDoorQSgF0
set_option linter.unusedSimpArgs false
set_option linter.unusedVariables false
set_option linter.unusedVariables false
set_option linter.unusedSimpArgs false
namespace Go.Proofs.YthhjgndaiimgjaaGreatDoor
open Go.RowKit Gno
/-- a region of a body, by its number. -/
def regIn (n : Nat) : Code → Option Code
  | .region k ops b => if k = n then some (.region k ops b) else none
  | .seq x y => (regIn n x).or (regIn n y)
  | .block _ x => regIn n x
  | .cond _ x y => (regIn n x).or (regIn n y)
  | .loop x => regIn n x
  | _ => none
noncomputable def regD (n : Nat) : Code := (regIn n (Tryz.f11.body.getD .skip)).getD .skip
end Go.Proofs.YthhjgndaiimgjaaGreatDoor
