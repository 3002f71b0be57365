/- What must be in any case of days of months. -/
import Derived.Test.YtlmphmfadikdpaaPick4
import Derived.Deep.RegionHeld3
import Derived.Deep.DrawnRows
set_option linter.unusedVariables false
namespace Go.Proofs.Ytlmphmfadikdpaa
open Go.RowKit Gno

theorem pickBegun_any (w : World) :
    Calls Try.prog 26 #[] w fun e w' => e = .returned (.bool true) ∧ Below w.heap.size w w' := by
  have c1 : ∀ w, Calls Try.prog 24 #[.int .i64 2020, .int .i64 3, .agg #[.int .i64 2, .int .i64 0, .int .i64 0]] w fun e w' => e = .returned (.tuple #[.int .i64 29, .int .i64 0]) ∧ Below w.heap.size w w' := fun w => find_any 2020 3 2 0 0 w
  have c2 : ∀ w, Calls Try.prog 24 #[.int .i64 2020, .int .i64 11, .agg #[.int .i64 3, .int .i64 0, .int .i64 1]] w fun e w' => e = .returned (.tuple #[.int .i64 1, .int .i64 0]) ∧ Below w.heap.size w w' := fun w => find_any 2020 11 3 0 1 w
  have c3 : ∀ w, Calls Try.prog 24 #[.int .i64 2021, .int .i64 2, .agg #[.int .i64 1, .int .i64 0, .int .i64 29]] w fun e w' => e = .returned (.tuple #[.int .i64 0, .int .i64 4]) ∧ Below w.heap.size w w' := fun w => find_any 2021 2 1 0 29 w
  have c4 : ∀ w, Calls Try.prog 24 #[.int .i64 2020, .int .i64 11, .agg #[.int .i64 3, .int .i64 0, .int .i64 30]] w fun e w' => e = .returned (.tuple #[.int .i64 0, .int .i64 4]) ∧ Below w.heap.size w w' := fun w => find_any 2020 11 3 0 30 w
  have c5 : ∀ w, Calls Try.prog 27 #[.agg #[.int .i64 0, .int .i64 0, .int .i64 0]] w fun e w' => e = .returned (.int .i64 8) ∧ Below w.heap.size w w' := fun w => pcheck_any 0 0 0 w
  have C1 := Lib.hid c1
  have C2 := Lib.hid c2
  have C3 := Lib.hid c3
  have C4 := Lib.hid c4
  have C5 := Lib.hid c5
  clear c1 c2 c3 c4 c5
  go_enter Try.func26, Try.ntmps26
  go_wp2_with fail
  refine (C1.out _).mono ?_
  rintro e w1 ⟨rfl, hb1⟩
  go_wp2_with fail
  refine (C2.out _).mono ?_
  rintro e w2 ⟨rfl, hb2⟩
  go_wp2_with fail
  refine (C3.out _).mono ?_
  rintro e w3 ⟨rfl, hb3⟩
  go_wp2_with fail
  refine (C4.out _).mono ?_
  rintro e w4 ⟨rfl, hb4⟩
  go_wp2_with fail
  refine (C5.out _).mono ?_
  rintro e w5 ⟨rfl, hb5⟩
  go_wp2
  go_ret
  have h12 := hb1.trans (hb2.mono hb1.size)
  have h13 := h12.trans (hb3.mono h12.size)
  have h14 := h13.trans (hb4.mono h13.size)
  exact ⟨rfl, h14.trans (hb5.mono h14.size)⟩
end Go.Proofs.Ytlmphmfadikdpaa
