/- The walk of OffTrue. -/
import Derived.Deep.RegionHeld3
import Derived.BigRegion
import Derived.Test.YtlngalmdidaahaaGreatDoorMTableSameRow0
import Derived.Test.YtlngalmdidaahaaGreatDoorMTableSameRow1
import Derived.Test.YtlngalmdidaahaaGreatDoorMTableSameRow2
import Derived.Test.YtlngalmdidaahaaGreatDoorMTableSameRow3
import Derived.Test.YtlngalmdidaahaaGreatDoorMTableSameRow4
import Derived.Test.YtlngalmdidaahaaGreatDoorMTableSameRow5
import Derived.Test.YtlngalmdidaahaaGreatDoorMTableSameRow6
import Derived.Test.YtlngalmdidaahaaGreatDoorMTableSameRow7
import Derived.Test.YtlngalmdidaahaaGreatDoorMTableSameRow8
import Derived.Test.YtlngalmdidaahaaGreatDoorMTableSameRow9
import Derived.Test.YtlngalmdidaahaaGreatDoorMTableSameRow10
import Derived.Test.YtlngalmdidaahaaGreatDoorMTableSameRow11
import Derived.Test.YtlngalmdidaahaaGreatDoorMTableSameRow12
import Derived.Test.YtlngalmdidaahaaGreatDoorMTableSameRow13
import Derived.Test.YtlngalmdidaahaaGreatDoorMTableSameRow14
import Derived.Test.YtlngalmdidaahaaGreatDoorMTableSameRow15
import Derived.Test.YtlngalmdidaahaaGreatDoorMTableSameRow16
import Derived.Test.YtlngalmdidaahaaGreatDoorMTableSameRow17
import Derived.Test.YtlngalmdidaahaaGreatDoorMTableSameRow18
import Derived.Test.YtlngalmdidaahaaGreatDoorMTableSameRow19
import Derived.Test.YtlngalmdidaahaaGreatDoorMTableSameRow20
import Derived.Test.YtlngalmdidaahaaGreatDoorMTableSameRow21
import Derived.Test.YtlngalmdidaahaaGreatDoorMTableSameRow22
import Derived.Test.YtlngalmdidaahaaGreatDoorMTableSameRow23
import Derived.Test.YtlngalmdidaahaaGreatDoorMTableSameRow24
import Derived.Test.YtlngalmdidaahaaGreatDoorMTableSameRow25
import Derived.Test.YtlngalmdidaahaaGreatDoorMTableSameRow26
import Derived.Test.YtlngalmdidaahaaGreatDoorMTableSameRow27
import Derived.Test.YtlngalmdidaahaaGreatDoorMTableSameRow28
import Derived.Test.YtlngalmdidaahaaGreatDoorMTableSameRow29
import Derived.Test.YtlngalmdidaahaaGreatDoorMTableSameRow30
import Derived.Test.YtlngalmdidaahaaGreatDoorMTableSameRow31
import Derived.Test.YtlngalmdidaahaaGreatDoorMTableSameRow32
import Derived.Test.YtlngalmdidaahaaGreatDoorMTableSameRow33
import Derived.Test.YtlngalmdidaahaaGreatDoorMTableSameRow34
import Derived.Test.YtlngalmdidaahaaGreatDoorMTableSameRow35
import Derived.Test.YtlngalmdidaahaaGreatDoorMTableSameRow36
import Derived.Test.YtlngalmdidaahaaGreatDoorMTableSameRow37
import Derived.Test.YtlngalmdidaahaaGreatDoorMTableSameRow38
import Derived.Test.YtlngalmdidaahaaGreatDoorMTableSameRow39
import Derived.Test.YtlngalmdidaahaaGreatDoorMTableSameRow40
import Derived.Test.YtlngalmdidaahaaGreatDoorMTableSameRow41
set_option linter.unusedSimpArgs false
set_option linter.unusedVariables false
set_option linter.unusedVariables false
namespace Gno
open Go
def hasStd (s : Int) (_ : Nat) (x : Er) : Bool := x.std == s
end Gno
namespace Go.Proofs.YtlngalmdidaahaaGreatDoor
open Go.RowKit Gno
theorem alloc_keep {W : World} {o : Obj} {a : Addr} {v : Value} (h : W.cell? a = some v) : (W.alloc o).cell? a = some v := (World.cell?_alloc_some W a o (by simp [h])).trans h
theorem alloc_keep2 {W : World} {o : Obj} {a : Addr} {v : Value} (h : W.drew.cell? a = some v) : (W.alloc o).drew.cell? a = some v := alloc_keep (W := W) h
end Go.Proofs.YtlngalmdidaahaaGreatDoor
