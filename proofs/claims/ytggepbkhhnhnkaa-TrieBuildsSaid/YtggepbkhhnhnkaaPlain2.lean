/- Plain arithmetic: the date of a day. No program in sight. -/
import Derived.Test.YtggepbkhhnhnkaaPlain
set_option linter.unusedVariables false
set_option linter.unusedSimpArgs false
namespace Gno

/-- the year of a day. -/
def yOf (n : Int) : Int := 1970 + (4 * n + 2) / 1461
/-- the first place from m on behind which f passes r (k steps at most). -/
def scan (f : Int → Int) (r : Int) : Nat → Int → Int
  | 0, m => m
  | k + 1, m => if r < f (m + 1) then m else scan f r k (m + 1)
theorem scan_spec (f : Int → Int) (r : Int) : ∀ (k : Nat) (m : Int), f m ≤ r → r < f (m + k + 1) →
    m ≤ scan f r k m ∧ scan f r k m ≤ m + k ∧ f (scan f r k m) ≤ r ∧ r < f (scan f r k m + 1)
  | 0, m, h1, h2 => by
    simp only [scan]
    exact ⟨by omega, by omega, h1, by simpa using h2⟩
  | k + 1, m, h1, h2 => by
    simp only [scan]
    by_cases h : r < f (m + 1)
    · rw [if_pos h]
      exact ⟨by omega, by omega, h1, h⟩
    · rw [if_neg h]
      have ih := scan_spec f r k (m + 1) (by omega) (by rw [show m + 1 + (k : Int) + 1 = m + ((k + 1 : Nat) : Int) + 1 by omega]; exact h2)
      exact ⟨by omega, by omega, ih.2.2.1, ih.2.2.2⟩
/-- the month of the r-th day of a year. -/
def mOfIn (y r : Int) : Int := scan (aheadY y) r 11 1
def mOf (n : Int) : Int := mOfIn (yOf n) (n - begin_ (yOf n))
def dOf (n : Int) : Int := n - begin_ (yOf n) - aheadY (yOf n) (mOf n) + 1

theorem yOf_le (n : Int) : begin_ (yOf n) ≤ n := by unfold begin_ yOf; omega
theorem yOf_lt (n : Int) : n < begin_ (yOf n + 1) := by unfold begin_ yOf; omega
theorem yOf_bd (n : Int) (h1 : 0 ≤ n) (h2 : n ≤ 21914) : 1970 ≤ yOf n ∧ yOf n ≤ 2029 := by unfold yOf; omega
theorem yOf_eq (n y : Int) (h1 : begin_ y ≤ n) (h2 : n < begin_ (y + 1)) : yOf n = y := by unfold begin_ at h1 h2; unfold yOf; omega

theorem aheadY_mono_nat (y a : Int) (h1 : 1 ≤ a) : ∀ n : Nat, a + n ≤ 13 → aheadY y a ≤ aheadY y (a + n)
  | 0, _ => by simp
  | n + 1, h => by
    have ih := aheadY_mono_nat y a h1 n (by omega)
    have hs := aheadY_succ y (a + n)
    have hb := size_bd y (a + n) (by omega) (by omega)
    rw [show a + ((n + 1 : Nat) : Int) = a + n + 1 by omega]
    omega
theorem aheadY_mono (y a b : Int) (h1 : 1 ≤ a) (h2 : a ≤ b) (h3 : b ≤ 13) : aheadY y a ≤ aheadY y b := by
  have := aheadY_mono_nat y a h1 (b - a).toNat (by omega)
  rw [show a + ((b - a).toNat : Int) = b by omega] at this
  exact this

/-- what holds of the month. -/
theorem mOfIn_spec (y r : Int) (h1 : 0 ≤ r) (h2 : r < 365 + lp y) :
    1 ≤ mOfIn y r ∧ mOfIn y r ≤ 12 ∧ aheadY y (mOfIn y r) ≤ r ∧ r < aheadY y (mOfIn y r + 1) := by
  have h := scan_spec (aheadY y) r 11 1 (by rw [aheadY_one]; exact h1) (by rw [show (1 : Int) + ((11 : Nat) : Int) + 1 = 13 from rfl, aheadY_13]; exact h2)
  unfold mOfIn
  exact ⟨h.1, by omega, h.2.2.1, h.2.2.2⟩

/-- and nothing else has it. -/
theorem mOfIn_eq (y r m : Int) (h1 : 1 ≤ m) (h2 : m ≤ 12) (h3 : aheadY y m ≤ r) (h4 : r < aheadY y (m + 1)) : mOfIn y r = m := by
  have a0 := aheadY_mono y 1 m (by omega) h1 (by omega)
  have a1 := aheadY_mono y (m + 1) 13 (by omega) (by omega) (by omega)
  rw [aheadY_one] at a0
  rw [aheadY_13] at a1
  obtain ⟨m1, m2, m3, m4⟩ := mOfIn_spec y r (by omega) (by omega)
  rcases Int.lt_trichotomy (mOfIn y r) m with h | h | h
  · have := aheadY_mono y (mOfIn y r + 1) m (by omega) (by omega) (by omega)
    omega
  · exact h
  · have := aheadY_mono y (m + 1) (mOfIn y r) (by omega) (by omega) (by omega)
    omega

theorem isDate_iff (y m d : Int) : isDate y m d = true ↔ (1970 ≤ y ∧ y ≤ 2029) ∧ (1 ≤ m ∧ m ≤ 12) ∧ 1 ≤ d ∧ d ≤ size y m := by simp [isDate]
theorem isDay_iff (n : Int) : isDay n = true ↔ 0 ≤ n ∧ n ≤ 21914 := by simp [isDay]

/-- the month's end lies in the year. -/
theorem aheadY_le_year (y m : Int) (h1 : 1 ≤ m) (h2 : m ≤ 12) : 0 ≤ aheadY y m ∧ aheadY y (m + 1) ≤ 365 + lp y := by
  have a0 := aheadY_mono y 1 m (by omega) h1 (by omega)
  have a1 := aheadY_mono y (m + 1) 13 (by omega) (by omega) (by omega)
  rw [aheadY_one] at a0
  rw [aheadY_13] at a1
  exact ⟨a0, a1⟩

/-- DATE OF A DAY: it is a date, and its number is the day. -/
theorem date_of (n : Int) (h : isDay n = true) : isDate (yOf n) (mOf n) (dOf n) = true ∧ num (yOf n) (mOf n) (dOf n) = n := by
  obtain ⟨h1, h2⟩ := (isDay_iff n).1 h
  obtain ⟨y1, y2⟩ := yOf_bd n h1 h2
  have b1 := yOf_le n
  have b2 := yOf_lt n
  rw [begin_succ] at b2
  obtain ⟨m1, m2, m3, m4⟩ := mOfIn_spec (yOf n) (n - begin_ (yOf n)) (by omega) (by omega)
  rw [aheadY_succ] at m4
  refine ⟨(isDate_iff _ _ _).2 ⟨⟨y1, y2⟩, ⟨m1, m2⟩, ?_, ?_⟩, ?_⟩
  · unfold dOf mOf; omega
  · unfold dOf mOf; omega
  · unfold num dOf mOf; omega

/-- DAYS OF A DATE: it is a day, and its date is that. -/
theorem day_of (y m d : Int) (h : isDate y m d = true) : isDay (num y m d) = true ∧ yOf (num y m d) = y ∧ mOf (num y m d) = m ∧ dOf (num y m d) = d := by
  obtain ⟨⟨y1, y2⟩, ⟨m1, m2⟩, d1, d2⟩ := (isDate_iff y m d).1 h
  obtain ⟨a1, a2⟩ := aheadY_le_year y m m1 m2
  have a3 := aheadY_succ y m
  have e1 : yOf (num y m d) = y := yOf_eq _ _ (by unfold num; omega) (by rw [begin_succ]; unfold num; omega)
  have e2 : mOf (num y m d) = m := by
    unfold mOf
    rw [e1]
    exact mOfIn_eq _ _ _ m1 m2 (by unfold num; omega) (by unfold num; omega)
  have b1 := begin_bd y y1 (by omega)
  have b2 := begin_bd (y + 1) (by omega) (by omega)
  rw [begin_succ] at b2
  refine ⟨(isDay_iff _).2 ⟨?_, ?_⟩, e1, e2, ?_⟩
  · unfold num; omega
  · unfold num; omega
  · unfold dOf
    rw [e2, e1]
    unfold num
    omega

theorem aheadY_low (y m : Int) (h1 : 1 ≤ m) (h2 : m ≤ 12) : aheadY y m ≤ 31 * (m - 1) := by
  have hl := lp_01 y
  rcases months h1 h2 with rfl | rfl | rfl | rfl | rfl | rfl | rfl | rfl | rfl | rfl | rfl | rfl <;> simp [aheadY, cum0] <;> omega
theorem aheadY_high (y m : Int) (h1 : 1 ≤ m) (h2 : m ≤ 11) : 31 * m ≤ aheadY y (m + 1 + 1) := by
  have hl := lp_01 y
  rcases months h1 (by omega) with rfl | rfl | rfl | rfl | rfl | rfl | rfl | rfl | rfl | rfl | rfl | rfl <;> simp [aheadY, cum0] <;> omega

/-- the program's first guess of the month, and its one step more. -/
theorem guess_month (y r : Int) (h1 : 0 ≤ r) (h2 : r < 365 + lp y) :
    1 ≤ r / 31 + 1 ∧ r / 31 + 1 ≤ 12 ∧ (aheadY y (r / 31 + 1 + 1) ≤ r → mOfIn y r = r / 31 + 1 + 1) ∧ (¬ aheadY y (r / 31 + 1 + 1) ≤ r → mOfIn y r = r / 31 + 1) := by
  have hl0 := lp_01 y
  have hb : 1 ≤ r / 31 + 1 ∧ r / 31 + 1 ≤ 12 := by omega
  obtain ⟨b1, b2⟩ := hb
  have e : 31 * (r / 31) ≤ r ∧ r < 31 * (r / 31 + 1) := by omega
  refine ⟨b1, b2, fun h => ?_, fun h => ?_⟩
  · have h12 : r / 31 + 1 ≤ 11 := by
      rcases Int.lt_or_le (r / 31 + 1) 12 with h' | h'
      · omega
      · exfalso
        have e12 : r / 31 + 1 = 12 := by omega
        rw [e12, show (12 : Int) + 1 = 13 from rfl, aheadY_13] at h
        omega
    have hh := aheadY_high y (r / 31 + 1) b1 h12
    exact mOfIn_eq _ _ _ (by omega) (by omega) h (by omega)
  · have hh := aheadY_low y (r / 31 + 1) b1 b2
    exact mOfIn_eq _ _ _ b1 b2 (by omega) (by omega)

/-- the reference's numbers. -/
def yearDays (y : Int) : Int := if y % 4 = 0 then 366 else 365
theorem yearDays_is (y : Int) : yearDays y = 365 + lp y := by unfold yearDays lp; split <;> rfl
end Gno
