/- The walks of package days and of the reference's first functions. -/
import Derived.Test.YtlmphmfadikdpaaRows
import Derived.WalkKit
import Derived.WalkSpells
import Derived.WalkLawsBesides
import Derived.Handy
import Derived.Lib.Hide
import Derived.Test.YtlmphmfadikdpaaPlain2
set_option linter.unusedVariables false
namespace Go.Proofs.Ytlmphmfadikdpaa
open Go.RowKit Gno

theorem ret_bool {a b : Bool} (h : a = b) : Ending.returned (.bool a) = .returned (.bool b) := by rw [h]
theorem ret_int {k : IntKind} {a b : Int} (h : a = b) : Ending.returned (.int k a) = .returned (.int k b) := by rw [h]

theorem year_any (y : Int) (w : World) :
    Calls Try.prog 42 #[.int .i64 y] w fun e w' => e = .returned (.bool (isYear y)) ∧ w = w' := by
  by_cases h1 : 1970 ≤ y
  · by_cases h2 : y ≤ 2029
    all_goals
      go_enter Try.func42, Try.ntmps42
      go_wp2
      go_ret
      exact ⟨ret_bool (by simp [isYear]; omega), rfl⟩
  · go_enter Try.func42, Try.ntmps42
    go_wp2
    go_ret
    exact ⟨ret_bool (by simp [isYear]; omega), rfl⟩

theorem begin_any (y : Int) (w : World) (h1 : 1970 ≤ y) (h2 : y ≤ 2030) :
    Calls Try.prog 44 #[.int .i64 y] w fun e w' => e = .returned (.int .i64 (begin_ y)) ∧ w = w' := by
  go_enter Try.func44, Try.ntmps44
  go_wp2
  go_ret
  exact ⟨ret_int (by unfold begin_; omega), rfl⟩

/-- the table of package days, read at a place. -/
theorem table_at (m : Int) (h1 : 1 ≤ m) (h2 : m ≤ 13) (w : World) :
    (Instr.index 82 (.agg #[.int .i64 0, .int .i64 0, .int .i64 31, .int .i64 59, .int .i64 90, .int .i64 120, .int .i64 151, .int .i64 181, .int .i64 212, .int .i64 243, .int .i64 273, .int .i64 304, .int .i64 334, .int .i64 365]) (.int .i64 m)).run Try.prog w = .ok (.int .i64 (cum0 m)) w := by
  rcases (by omega : m = 1 ∨ m = 2 ∨ m = 3 ∨ m = 4 ∨ m = 5 ∨ m = 6 ∨ m = 7 ∨ m = 8 ∨ m = 9 ∨ m = 10 ∨ m = 11 ∨ m = 12 ∨ m = 13) with rfl | rfl | rfl | rfl | rfl | rfl | rfl | rfl | rfl | rfl | rfl | rfl | rfl <;> kernel_rfl

theorem ahead_any (y m : Int) (w : World) (h1 : 1 ≤ m) (h2 : m ≤ 13) (hy1 : 1970 ≤ y) (hy2 : y ≤ 2030) :
    Calls Try.prog 45 #[.int .i64 y, .int .i64 m] w fun e w' => e = .returned (.int .i64 (aheadY y m)) ∧ w = w' := by
  have ht := table_at m h1 h2
  have hb := cum0_bd m
  by_cases h3 : y % 4 = 0
  · by_cases h4 : 2 < m
    all_goals
      go_enter Try.func45, Try.ntmps45
      go_wp2
      go_ret
      exact ⟨ret_int (by unfold aheadY lp; (repeat' split) <;> omega), rfl⟩
  · go_enter Try.func45, Try.ntmps45
    go_wp2
    go_ret
    exact ⟨ret_int (by unfold aheadY lp; (repeat' split) <;> omega), rfl⟩


theorem size_no (y m : Int) (w : World) (h : ¬ (1970 ≤ y ∧ y ≤ 2029 ∧ 1 ≤ m ∧ m ≤ 12)) :
    Calls Try.prog 43 #[.int .i64 y, .int .i64 m] w fun e w' => e = .returned (.int .i64 0) ∧ w = w' := by
  by_cases h1 : isYear y = true
  · have h1' : 1970 ≤ y ∧ y ≤ 2029 := by simpa [isYear] using h1
    by_cases h2 : m < 1
    · clear h
      go_enter Try.func43, Try.ntmps43
      go_wp2_with (go_at_call 42; refine (year_any _ _).mono ?_; rintro e w' ⟨rfl, rfl⟩)
      go_ret
      exact ⟨rfl, rfl⟩
    · have h3 : 12 < m := by omega
      clear h
      go_enter Try.func43, Try.ntmps43
      go_wp2_with (go_at_call 42; refine (year_any _ _).mono ?_; rintro e w' ⟨rfl, rfl⟩)
      go_ret
      exact ⟨rfl, rfl⟩
  · have h1' : isYear y = false := by simpa using h1
    clear h h1
    go_enter Try.func43, Try.ntmps43
    go_wp2_with (go_at_call 42; refine (year_any _ _).mono ?_; rintro e w' ⟨rfl, rfl⟩)
    go_ret
    exact ⟨rfl, rfl⟩

theorem size_yes (y m : Int) (w : World) (hy1 : 1970 ≤ y) (hy2 : y ≤ 2029) (h1 : 1 ≤ m) (h2 : m ≤ 12) :
    Calls Try.prog 43 #[.int .i64 y, .int .i64 m] w fun e w' => e = .returned (.int .i64 (size y m)) ∧ w = w' := by
  have hy : isYear y = true := by simp [isYear]; omega
  have b1 := aheadY_bd y m
  have b2 := aheadY_bd y (m + 1)
  go_enter Try.func43, Try.ntmps43
  go_wp2_with (first
    | (go_at_call 42; refine (year_any _ _).mono ?_; rintro e w' ⟨rfl, rfl⟩)
    | (go_at_call 45; refine (ahead_any _ _ _ (by omega) (by omega) hy1 (by omega)).mono ?_; rintro e w' ⟨rfl, rfl⟩))
  go_ret
  exact ⟨rfl, rfl⟩

end Go.Proofs.Ytlmphmfadikdpaa
