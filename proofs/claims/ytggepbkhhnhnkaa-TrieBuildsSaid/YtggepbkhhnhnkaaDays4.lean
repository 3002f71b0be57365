/- The reference's leaves. -/
import Derived.Test.YtggepbkhhnhnkaaDays3
set_option linter.unusedVariables false
set_option linter.unusedSimpArgs false
namespace Go.Proofs.Ytggepbkhhnhnkaa
open Go.RowKit Gno

def withinB (n lo hi : Int) : Bool := decide (lo ≤ n ∧ n ≤ hi)
theorem withinB_iff (n lo hi : Int) : withinB n lo hi = true ↔ lo ≤ n ∧ n ≤ hi := by simp [withinB]
theorem withinB_no (n lo hi : Int) : withinB n lo hi = false ↔ ¬ (lo ≤ n ∧ n ≤ hi) := by unfold withinB; rw [decide_eq_false_iff_not]

theorem within_any (n lo hi : Int) (w : World) :
    Calls Try.prog 24 #[.int .i64 n, .int .i64 lo, .int .i64 hi] w fun e w' => e = .returned (.bool (withinB n lo hi)) ∧ w = w' := by
  by_cases h1 : lo ≤ n
  · by_cases h2 : n ≤ hi
    all_goals
      go_enter Try.func24, Try.ntmps24
      go_wp2
      go_ret
      exact ⟨ret_bool (by simp [withinB]; omega), rfl⟩
  · go_enter Try.func24, Try.ntmps24
    go_wp2
    go_ret
    exact ⟨ret_bool (by simp [withinB]; omega), rfl⟩

theorem size_vals (y : Int) : size y 1 = 31 ∧ size y 2 = 28 + lp y ∧ size y 3 = 31 ∧ size y 4 = 30 ∧ size y 5 = 31 ∧ size y 6 = 30 ∧ size y 7 = 31 ∧ size y 8 = 31 ∧ size y 9 = 30 ∧ size y 10 = 31 ∧ size y 11 = 30 ∧ size y 12 = 31 := by
  refine ⟨?_, ?_, ?_, ?_, ?_, ?_, ?_, ?_, ?_, ?_, ?_, ?_⟩ <;> rw [size_is _ _ (by omega) (by omega)] <;> simp

/-- the reference's table of months: a plain year's. -/
def mtab : List Value := [.int .i64 31, .int .i64 28, .int .i64 31, .int .i64 30, .int .i64 31, .int .i64 30, .int .i64 31, .int .i64 31, .int .i64 30, .int .i64 31, .int .i64 30, .int .i64 31]
theorem mtab_at (y m : Int) (h1 : 1 ≤ m) (h2 : m ≤ 12) : ∃ v : Int, 28 ≤ v ∧ v ≤ 31 ∧ mtab[m.toNat - 1]? = some (.int .i64 v) ∧ size y m = v + if m = 2 then lp y else 0 := by
  obtain ⟨a1, a2, a3, a4, a5, a6, a7, a8, a9, a10, a11, a12⟩ := size_vals y
  rcases months h1 h2 with rfl | rfl | rfl | rfl | rfl | rfl | rfl | rfl | rfl | rfl | rfl | rfl
  · exact ⟨31, by omega, by omega, rfl, a1⟩
  · exact ⟨28, by omega, by omega, rfl, a2⟩
  · exact ⟨31, by omega, by omega, rfl, a3⟩
  · exact ⟨30, by omega, by omega, rfl, a4⟩
  · exact ⟨31, by omega, by omega, rfl, a5⟩
  · exact ⟨30, by omega, by omega, rfl, a6⟩
  · exact ⟨31, by omega, by omega, rfl, a7⟩
  · exact ⟨31, by omega, by omega, rfl, a8⟩
  · exact ⟨30, by omega, by omega, rfl, a9⟩
  · exact ⟨31, by omega, by omega, rfl, a10⟩
  · exact ⟨30, by omega, by omega, rfl, a11⟩
  · exact ⟨31, by omega, by omega, rfl, a12⟩

end Go.Proofs.Ytggepbkhhnhnkaa
