/- Plain arithmetic of days, months and years: no program in sight. -/
set_option linter.unusedVariables false
set_option linter.unusedSimpArgs false
namespace Gno

/-- may y be a year? -/
def isYear (y : Int) : Bool := decide (1970 ≤ y ∧ y ≤ 2029)
def isMonth (m : Int) : Bool := decide (1 ≤ m ∧ m ≤ 12)
/-- 1 in a leap year, else 0. -/
def lp (y : Int) : Int := if y % 4 = 0 then 1 else 0
/-- days of a plain year ahead of month m (13: all). -/
def cum0 (m : Int) : Int :=
  if m ≤ 1 then 0 else if m = 2 then 31 else if m = 3 then 59 else if m = 4 then 90 else if m = 5 then 120 else if m = 6 then 151
  else if m = 7 then 181 else if m = 8 then 212 else if m = 9 then 243 else if m = 10 then 273 else if m = 11 then 304 else if m = 12 then 334 else 365
/-- days of year y ahead of month m. -/
def aheadY (y m : Int) : Int := cum0 m + if 2 < m then lp y else 0
def begin_ (y : Int) : Int := 365 * (y - 1970) + (y - 1970 + 1) / 4
/-- the size of a month. -/
def size (y m : Int) : Int := aheadY y (m + 1) - aheadY y m
/-- is there such a date? -/
def isDate (y m d : Int) : Bool := decide ((1970 ≤ y ∧ y ≤ 2029) ∧ (1 ≤ m ∧ m ≤ 12) ∧ 1 ≤ d ∧ d ≤ size y m)
/-- the number of a date. -/
def num (y m d : Int) : Int := begin_ y + aheadY y m + d - 1
def isDay (n : Int) : Bool := decide (0 ≤ n ∧ n ≤ 21914)

theorem lp_01 (y : Int) : 0 ≤ lp y ∧ lp y ≤ 1 := by unfold lp; split <;> omega

/-- the months, one by one. -/
theorem months {m : Int} (h1 : 1 ≤ m) (h2 : m ≤ 12) : m = 1 ∨ m = 2 ∨ m = 3 ∨ m = 4 ∨ m = 5 ∨ m = 6 ∨ m = 7 ∨ m = 8 ∨ m = 9 ∨ m = 10 ∨ m = 11 ∨ m = 12 := by omega

theorem cum0_bd (m : Int) : 0 ≤ cum0 m ∧ cum0 m ≤ 365 := by
  unfold cum0; repeat' split
  all_goals omega
theorem aheadY_bd (y m : Int) : 0 ≤ aheadY y m ∧ aheadY y m ≤ 366 := by
  have := cum0_bd m; have := lp_01 y
  unfold aheadY; split <;> omega
theorem begin_bd (y : Int) (h1 : 1970 ≤ y) (h2 : y ≤ 2030) : 0 ≤ begin_ y ∧ begin_ y ≤ 21915 := by unfold begin_; omega
theorem begin_succ (y : Int) : begin_ (y + 1) = begin_ y + 365 + lp y := by unfold begin_ lp; split <;> omega
theorem begin_1970 : begin_ 1970 = 0 := rfl
theorem begin_2030 : begin_ 2030 = 21915 := rfl
theorem begin_mono {a b : Int} (h : a ≤ b) : begin_ a ≤ begin_ b := by unfold begin_; omega
theorem begin_lt {a b : Int} (h : a < b) : begin_ a + 365 ≤ begin_ b := by unfold begin_; omega

/-- the sizes of the months. -/
theorem size_is (y m : Int) (h1 : 1 ≤ m) (h2 : m ≤ 12) :
    size y m = if m = 2 then 28 + lp y else if m = 4 ∨ m = 6 ∨ m = 9 ∨ m = 11 then 30 else 31 := by
  rcases months h1 h2 with rfl | rfl | rfl | rfl | rfl | rfl | rfl | rfl | rfl | rfl | rfl | rfl <;> simp [size, aheadY, cum0] <;> omega
theorem size_bd (y m : Int) (h1 : 1 ≤ m) (h2 : m ≤ 12) : 28 ≤ size y m ∧ size y m ≤ 31 := by
  have := lp_01 y
  rw [size_is y m h1 h2]; repeat' split
  all_goals omega
theorem aheadY_succ (y m : Int) : aheadY y (m + 1) = aheadY y m + size y m := by unfold size; omega
theorem aheadY_one (y : Int) : aheadY y 1 = 0 := by simp [aheadY, cum0]
theorem aheadY_13 (y : Int) : aheadY y 13 = 365 + lp y := by simp [aheadY, cum0]
end Gno
