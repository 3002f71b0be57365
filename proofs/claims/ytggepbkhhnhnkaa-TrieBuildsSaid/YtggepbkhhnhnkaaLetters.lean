/- The walks of the library's ContainsFunc, of Letters and of the reference's letters. -/
import Derived.Test.YtggepbkhhnhnkaaDays
import Derived.Test.YtggepbkhhnhnkaaRunes
import Derived.Lib.OthersKept
import Derived.Deep.LoopGhost
import Derived.Shelf.Abstract
set_option linter.unusedVariables false
set_option linter.unusedSimpArgs false
namespace Go.Proofs.Ytggepbkhhnhnkaa
open Go.RowKit Go.Shelf Gno

/-- what is asked of the function that is handed in: at every later world and every rune it returns 'p x', and whatever lay, lies. -/
def PredG (P : Program) (g : Nat) (lb : Array Value) (p : Nat → Bool) (w : World) : Prop :=
  ∀ (W : World) (x : Nat), x ≤ 1114111 → Below w.heap.size w W → Calls P g (#[.int .i32 (x : Int)] ++ lb) W fun e w' => e = .returned (.bool (p x)) ∧ Below W.heap.size W w'
theorem PredG.later {P : Program} {g : Nat} {lb : Array Value} {p : Nat → Bool} {w W : World} (h : PredG P g lb p w) (hb : Below w.heap.size w W) : PredG P g lb p W :=
  fun W' x hx hb' => h W' x hx (hb.trans (hb'.mono hb.size))

end Go.Proofs.Ytggepbkhhnhnkaa
