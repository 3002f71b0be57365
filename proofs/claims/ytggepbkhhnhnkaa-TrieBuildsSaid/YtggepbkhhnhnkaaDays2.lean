/- The walks of package days, more. -/
import Derived.Test.YtggepbkhhnhnkaaDays
set_option linter.unusedVariables false
set_option linter.unusedSimpArgs false
namespace Go.Proofs.Ytggepbkhhnhnkaa
open Go.RowKit Gno
end Go.Proofs.Ytggepbkhhnhnkaa
