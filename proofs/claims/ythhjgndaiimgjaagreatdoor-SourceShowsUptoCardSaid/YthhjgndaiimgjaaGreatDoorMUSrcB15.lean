/- A shaped world holds an integer in the cell of internal/bytealg.MaxLen. -/
import Derived.Shelf.Vars
import Derived.Test.YthhjgndaiimgjaaGreatDoorMUSrcB13
set_option linter.unusedSimpArgs false
set_option linter.unusedVariables false
/-! A shaped world holds an integer in the cell of internal/bytealg.MaxLen. -/
section
set_option linter.unusedVariables false
set_option linter.unusedSimpArgs false
namespace Go.Proofs.YthhjgndaiimgjaaGreatDoor
open Go.RowKit Gno
theorem maxAt_of {w : World} (h : w.ShapedOpen Tryz.prog) : MaxAt w w.heap.size := by
  obtain ⟨m, hm⟩ := cell_of_shapedOpen_int (g := 0) (t := 3) (zero := #[.int .i64 0]) (k := .i64) h (of_decide_eq_true (by kernel_rfl)) (by kernel_rfl) rfl (by kernel_rfl) (by kernel_rfl) Tryz.underlying3
  refine ⟨?_, m, hm⟩
  rcases Nat.lt_or_ge 0 w.heap.size with q | q
  · exact q
  · simp [World.cell?, Array.getElem?_eq_none q] at hm
end Go.Proofs.YthhjgndaiimgjaaGreatDoor
end
