/- The walk of BackTells. -/
import Derived.Test.YtbbbeldbhlehnaaGreatDoorMUBkT42
set_option linter.unusedSimpArgs false
set_option linter.unusedVariables false
section
set_option linter.unusedVariables false
set_option linter.unusedSimpArgs false
namespace Gno
open Go
theorem wdsL_few {x : Wd} {loc : ByteArray} {t p : Int} (hzn : x.d.zs.length = x.d.zn) : (wdsL x loc t p).length ≤ 1000 := by
 by_cases h : wdsE x loc t p = 0
 ·have := data_few (preE_zero (wdsE_zero h).1).1.data
  rw [wdsL_len h]; omega
 ·rw [wdsL_bad h]; simp
theorem prsL_few {x : Wd} {loc s : ByteArray} {t p : Int} (hzn : x.d.zs.length = x.d.zn) : (prsL x loc s t p).length ≤ 1000 := by
 by_cases h : wdsE x loc t p = 0
 ·have := data_few (preE_zero (wdsE_zero h).1).1.data
  have h2 := prsUp_len (x := x) (loc := loc) (s := s) (t := t) (p := p) x.d.zs.length
  rw [(prsL_is h).1, sortB_len]; omega
 ·rw [(prsL_bad h).1]; simp
end Gno
namespace Go.Proofs.YtbbbeldbhlehnaaGreatDoor
open Go.RowKit Gno
end Go.Proofs.YtbbbeldbhlehnaaGreatDoor
end
