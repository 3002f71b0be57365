/- Parts of a proof, laid together. -/
import Derived.Deep.RegionHeld3
import Derived.Deep.DrawnRows
import Derived.Test.YtbbbeldbhlehnaaGreatMUsesTellsRow7
set_option linter.unusedSimpArgs false
set_option linter.unusedVariables false
/-! What must be in any case of days of months. -/
section
set_option linter.unusedVariables false
set_option linter.unusedSimpArgs false
namespace Go.Proofs.YtbbbeldbhlehnaaGreat
open Go.RowKit Gno
end Go.Proofs.YtbbbeldbhlehnaaGreat
end
