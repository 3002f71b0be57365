/- Parts of a proof, laid together. -/
set_option linter.unusedSimpArgs false
set_option linter.unusedVariables false
/-! Plain arithmetic of days, months and years: no program in sight. -/
section
set_option linter.unusedVariables false
set_option linter.unusedSimpArgs false
namespace Gno

/-- may y be a year? -/
def isYear (y : Int) : Bool := decide (1970 ≤ y ∧ y ≤ 2029)
def isMonth (m : Int) : Bool := decide (1 ≤ m ∧ m ≤ 12)
/-- 1 in a leap year, else 0. -/
def lp (y : Int) : Int := if y % 4 = 0 then 1 else 0
/-- days of a plain year ahead of month m (13: all). -/
def cum0 (m : Int) : Int :=
  if m ≤ 1 then 0 else if m = 2 then 31 else if m = 3 then 59 else if m = 4 then 90 else if m = 5 then 120 else if m = 6 then 151
  else if m = 7 then 181 else if m = 8 then 212 else if m = 9 then 243 else if m = 10 then 273 else if m = 11 then 304 else if m = 12 then 334 else 365
/-- days of year y ahead of month m. -/
def aheadY (y m : Int) : Int := cum0 m + if 2 < m then lp y else 0
def begin_ (y : Int) : Int := 365 * (y - 1970) + (y - 1970 + 1) / 4
/-- the size of a month. -/
def size (y m : Int) : Int := aheadY y (m + 1) - aheadY y m
/-- is there such a date? -/
def isDate (y m d : Int) : Bool := decide ((1970 ≤ y ∧ y ≤ 2029) ∧ (1 ≤ m ∧ m ≤ 12) ∧ 1 ≤ d ∧ d ≤ size y m)
/-- the number of a date. -/
def num (y m d : Int) : Int := begin_ y + aheadY y m + d - 1
def isDay (n : Int) : Bool := decide (0 ≤ n ∧ n ≤ 21914)

theorem lp_01 (y : Int) : 0 ≤ lp y ∧ lp y ≤ 1 := by unfold lp; split <;> omega

/-- the months, one by one. -/
theorem months {m : Int} (h1 : 1 ≤ m) (h2 : m ≤ 12) : m = 1 ∨ m = 2 ∨ m = 3 ∨ m = 4 ∨ m = 5 ∨ m = 6 ∨ m = 7 ∨ m = 8 ∨ m = 9 ∨ m = 10 ∨ m = 11 ∨ m = 12 := by omega

theorem cum0_bd (m : Int) : 0 ≤ cum0 m ∧ cum0 m ≤ 365 := by
  unfold cum0; repeat' split
  all_goals omega
theorem aheadY_bd (y m : Int) : 0 ≤ aheadY y m ∧ aheadY y m ≤ 366 := by
  have := cum0_bd m; have := lp_01 y
  unfold aheadY; split <;> omega
theorem begin_bd (y : Int) (h1 : 1970 ≤ y) (h2 : y ≤ 2030) : 0 ≤ begin_ y ∧ begin_ y ≤ 21915 := by unfold begin_; omega
theorem begin_succ (y : Int) : begin_ (y + 1) = begin_ y + 365 + lp y := by unfold begin_ lp; split <;> omega
theorem begin_1970 : begin_ 1970 = 0 := rfl
theorem begin_2030 : begin_ 2030 = 21915 := rfl
theorem begin_mono {a b : Int} (h : a ≤ b) : begin_ a ≤ begin_ b := by unfold begin_; omega
theorem begin_lt {a b : Int} (h : a < b) : begin_ a + 365 ≤ begin_ b := by unfold begin_; omega

/-- the sizes of the months. -/
theorem size_is (y m : Int) (h1 : 1 ≤ m) (h2 : m ≤ 12) :
    size y m = if m = 2 then 28 + lp y else if m = 4 ∨ m = 6 ∨ m = 9 ∨ m = 11 then 30 else 31 := by
  rcases months h1 h2 with rfl | rfl | rfl | rfl | rfl | rfl | rfl | rfl | rfl | rfl | rfl | rfl <;> simp [size, aheadY, cum0] <;> omega
theorem size_bd (y m : Int) (h1 : 1 ≤ m) (h2 : m ≤ 12) : 28 ≤ size y m ∧ size y m ≤ 31 := by
  have := lp_01 y
  rw [size_is y m h1 h2]; repeat' split
  all_goals omega
theorem aheadY_succ (y m : Int) : aheadY y (m + 1) = aheadY y m + size y m := by unfold size; omega
theorem aheadY_one (y : Int) : aheadY y 1 = 0 := by simp [aheadY, cum0]
theorem aheadY_13 (y : Int) : aheadY y 13 = 365 + lp y := by simp [aheadY, cum0]
end Gno
end
/-! Plain arithmetic: the date of a day. No program in sight. -/
section
set_option linter.unusedVariables false
set_option linter.unusedSimpArgs false
namespace Gno

/-- the year of a day. -/
def yOf (n : Int) : Int := 1970 + (4 * n + 2) / 1461
/-- the first place from m on behind which f passes r (k steps at most). -/
def scan (f : Int → Int) (r : Int) : Nat → Int → Int
  | 0, m => m
  | k + 1, m => if r < f (m + 1) then m else scan f r k (m + 1)
theorem scan_spec (f : Int → Int) (r : Int) : ∀ (k : Nat) (m : Int), f m ≤ r → r < f (m + k + 1) →
    m ≤ scan f r k m ∧ scan f r k m ≤ m + k ∧ f (scan f r k m) ≤ r ∧ r < f (scan f r k m + 1)
  | 0, m, h1, h2 => by
    simp only [scan]
    exact ⟨by omega, by omega, h1, by simpa using h2⟩
  | k + 1, m, h1, h2 => by
    simp only [scan]
    by_cases h : r < f (m + 1)
    · rw [if_pos h]
      exact ⟨by omega, by omega, h1, h⟩
    · rw [if_neg h]
      have ih := scan_spec f r k (m + 1) (by omega) (by rw [show m + 1 + (k : Int) + 1 = m + ((k + 1 : Nat) : Int) + 1 by omega]; exact h2)
      exact ⟨by omega, by omega, ih.2.2.1, ih.2.2.2⟩
/-- the month of the r-th day of a year. -/
def mOfIn (y r : Int) : Int := scan (aheadY y) r 11 1
def mOf (n : Int) : Int := mOfIn (yOf n) (n - begin_ (yOf n))
def dOf (n : Int) : Int := n - begin_ (yOf n) - aheadY (yOf n) (mOf n) + 1

theorem yOf_le (n : Int) : begin_ (yOf n) ≤ n := by unfold begin_ yOf; omega
theorem yOf_lt (n : Int) : n < begin_ (yOf n + 1) := by unfold begin_ yOf; omega
theorem yOf_bd (n : Int) (h1 : 0 ≤ n) (h2 : n ≤ 21914) : 1970 ≤ yOf n ∧ yOf n ≤ 2029 := by unfold yOf; omega
theorem yOf_eq (n y : Int) (h1 : begin_ y ≤ n) (h2 : n < begin_ (y + 1)) : yOf n = y := by unfold begin_ at h1 h2; unfold yOf; omega

theorem aheadY_mono_nat (y a : Int) (h1 : 1 ≤ a) : ∀ n : Nat, a + n ≤ 13 → aheadY y a ≤ aheadY y (a + n)
  | 0, _ => by simp
  | n + 1, h => by
    have ih := aheadY_mono_nat y a h1 n (by omega)
    have hs := aheadY_succ y (a + n)
    have hb := size_bd y (a + n) (by omega) (by omega)
    rw [show a + ((n + 1 : Nat) : Int) = a + n + 1 by omega]
    omega
theorem aheadY_mono (y a b : Int) (h1 : 1 ≤ a) (h2 : a ≤ b) (h3 : b ≤ 13) : aheadY y a ≤ aheadY y b := by
  have := aheadY_mono_nat y a h1 (b - a).toNat (by omega)
  rw [show a + ((b - a).toNat : Int) = b by omega] at this
  exact this

/-- what holds of the month. -/
theorem mOfIn_spec (y r : Int) (h1 : 0 ≤ r) (h2 : r < 365 + lp y) :
    1 ≤ mOfIn y r ∧ mOfIn y r ≤ 12 ∧ aheadY y (mOfIn y r) ≤ r ∧ r < aheadY y (mOfIn y r + 1) := by
  have h := scan_spec (aheadY y) r 11 1 (by rw [aheadY_one]; exact h1) (by rw [show (1 : Int) + ((11 : Nat) : Int) + 1 = 13 from rfl, aheadY_13]; exact h2)
  unfold mOfIn
  exact ⟨h.1, by omega, h.2.2.1, h.2.2.2⟩

/-- and nothing else has it. -/
theorem mOfIn_eq (y r m : Int) (h1 : 1 ≤ m) (h2 : m ≤ 12) (h3 : aheadY y m ≤ r) (h4 : r < aheadY y (m + 1)) : mOfIn y r = m := by
  have a0 := aheadY_mono y 1 m (by omega) h1 (by omega)
  have a1 := aheadY_mono y (m + 1) 13 (by omega) (by omega) (by omega)
  rw [aheadY_one] at a0
  rw [aheadY_13] at a1
  obtain ⟨m1, m2, m3, m4⟩ := mOfIn_spec y r (by omega) (by omega)
  rcases Int.lt_trichotomy (mOfIn y r) m with h | h | h
  · have := aheadY_mono y (mOfIn y r + 1) m (by omega) (by omega) (by omega)
    omega
  · exact h
  · have := aheadY_mono y (m + 1) (mOfIn y r) (by omega) (by omega) (by omega)
    omega

theorem isDate_iff (y m d : Int) : isDate y m d = true ↔ (1970 ≤ y ∧ y ≤ 2029) ∧ (1 ≤ m ∧ m ≤ 12) ∧ 1 ≤ d ∧ d ≤ size y m := by simp [isDate]
theorem isDay_iff (n : Int) : isDay n = true ↔ 0 ≤ n ∧ n ≤ 21914 := by simp [isDay]

/-- the month's end lies in the year. -/
theorem aheadY_le_year (y m : Int) (h1 : 1 ≤ m) (h2 : m ≤ 12) : 0 ≤ aheadY y m ∧ aheadY y (m + 1) ≤ 365 + lp y := by
  have a0 := aheadY_mono y 1 m (by omega) h1 (by omega)
  have a1 := aheadY_mono y (m + 1) 13 (by omega) (by omega) (by omega)
  rw [aheadY_one] at a0
  rw [aheadY_13] at a1
  exact ⟨a0, a1⟩

/-- DATE OF A DAY: it is a date, and its number is the day. -/
theorem date_of (n : Int) (h : isDay n = true) : isDate (yOf n) (mOf n) (dOf n) = true ∧ num (yOf n) (mOf n) (dOf n) = n := by
  obtain ⟨h1, h2⟩ := (isDay_iff n).1 h
  obtain ⟨y1, y2⟩ := yOf_bd n h1 h2
  have b1 := yOf_le n
  have b2 := yOf_lt n
  rw [begin_succ] at b2
  obtain ⟨m1, m2, m3, m4⟩ := mOfIn_spec (yOf n) (n - begin_ (yOf n)) (by omega) (by omega)
  rw [aheadY_succ] at m4
  refine ⟨(isDate_iff _ _ _).2 ⟨⟨y1, y2⟩, ⟨m1, m2⟩, ?_, ?_⟩, ?_⟩
  · unfold dOf mOf; omega
  · unfold dOf mOf; omega
  · unfold num dOf mOf; omega

/-- DAYS OF A DATE: it is a day, and its date is that. -/
theorem day_of (y m d : Int) (h : isDate y m d = true) : isDay (num y m d) = true ∧ yOf (num y m d) = y ∧ mOf (num y m d) = m ∧ dOf (num y m d) = d := by
  obtain ⟨⟨y1, y2⟩, ⟨m1, m2⟩, d1, d2⟩ := (isDate_iff y m d).1 h
  obtain ⟨a1, a2⟩ := aheadY_le_year y m m1 m2
  have a3 := aheadY_succ y m
  have e1 : yOf (num y m d) = y := yOf_eq _ _ (by unfold num; omega) (by rw [begin_succ]; unfold num; omega)
  have e2 : mOf (num y m d) = m := by
    unfold mOf
    rw [e1]
    exact mOfIn_eq _ _ _ m1 m2 (by unfold num; omega) (by unfold num; omega)
  have b1 := begin_bd y y1 (by omega)
  have b2 := begin_bd (y + 1) (by omega) (by omega)
  rw [begin_succ] at b2
  refine ⟨(isDay_iff _).2 ⟨?_, ?_⟩, e1, e2, ?_⟩
  · unfold num; omega
  · unfold num; omega
  · unfold dOf
    rw [e2, e1]
    unfold num
    omega

theorem aheadY_low (y m : Int) (h1 : 1 ≤ m) (h2 : m ≤ 12) : aheadY y m ≤ 31 * (m - 1) := by
  have hl := lp_01 y
  rcases months h1 h2 with rfl | rfl | rfl | rfl | rfl | rfl | rfl | rfl | rfl | rfl | rfl | rfl <;> simp [aheadY, cum0] <;> omega
theorem aheadY_high (y m : Int) (h1 : 1 ≤ m) (h2 : m ≤ 11) : 31 * m ≤ aheadY y (m + 1 + 1) := by
  have hl := lp_01 y
  rcases months h1 (by omega) with rfl | rfl | rfl | rfl | rfl | rfl | rfl | rfl | rfl | rfl | rfl | rfl <;> simp [aheadY, cum0] <;> omega

/-- the program's first guess of the month, and its one step more. -/
theorem guess_month (y r : Int) (h1 : 0 ≤ r) (h2 : r < 365 + lp y) :
    1 ≤ r / 31 + 1 ∧ r / 31 + 1 ≤ 12 ∧ (aheadY y (r / 31 + 1 + 1) ≤ r → mOfIn y r = r / 31 + 1 + 1) ∧ (¬ aheadY y (r / 31 + 1 + 1) ≤ r → mOfIn y r = r / 31 + 1) := by
  have hl0 := lp_01 y
  have hb : 1 ≤ r / 31 + 1 ∧ r / 31 + 1 ≤ 12 := by omega
  obtain ⟨b1, b2⟩ := hb
  have e : 31 * (r / 31) ≤ r ∧ r < 31 * (r / 31 + 1) := by omega
  refine ⟨b1, b2, fun h => ?_, fun h => ?_⟩
  · have h12 : r / 31 + 1 ≤ 11 := by
      rcases Int.lt_or_le (r / 31 + 1) 12 with h' | h'
      · omega
      · exfalso
        have e12 : r / 31 + 1 = 12 := by omega
        rw [e12, show (12 : Int) + 1 = 13 from rfl, aheadY_13] at h
        omega
    have hh := aheadY_high y (r / 31 + 1) b1 h12
    exact mOfIn_eq _ _ _ (by omega) (by omega) h (by omega)
  · have hh := aheadY_low y (r / 31 + 1) b1 b2
    exact mOfIn_eq _ _ _ b1 b2 (by omega) (by omega)

/-- the reference's numbers. -/
def yearDays (y : Int) : Int := if y % 4 = 0 then 366 else 365
theorem yearDays_is (y : Int) : yearDays y = 365 + lp y := by unfold yearDays lp; split <;> rfl
end Gno
end
/-! Plain arithmetic: a day on; a year on. No program in sight. -/
section
set_option linter.unusedVariables false
set_option linter.unusedSimpArgs false
namespace Gno

/-- the next day's date. -/
theorem next_date (n : Int) (h1 : 0 ≤ n) (h2 : n < 21914) :
    yOf n < yOf (n + 1) ∨ (yOf (n + 1) = yOf n ∧ mOf n < mOf (n + 1)) ∨ (yOf (n + 1) = yOf n ∧ mOf (n + 1) = mOf n ∧ dOf (n + 1) = dOf n + 1) := by
  have hy : yOf n ≤ yOf (n + 1) := by unfold yOf; omega
  rcases Int.lt_or_le (yOf n) (yOf (n + 1)) with h | h
  · exact .inl h
  · have e : yOf (n + 1) = yOf n := by omega
    have b1 := yOf_le n
    have b2 := yOf_lt n
    have b3 := yOf_lt (n + 1)
    rw [begin_succ] at b2 b3
    rw [e] at b3
    obtain ⟨m1, m2, m3, m4⟩ := mOfIn_spec (yOf n) (n - begin_ (yOf n)) (by omega) (by omega)
    obtain ⟨k1, k2, k3, k4⟩ := mOfIn_spec (yOf n) (n + 1 - begin_ (yOf n)) (by omega) (by omega)
    have em : mOf n = mOfIn (yOf n) (n - begin_ (yOf n)) := rfl
    have ek : mOf (n + 1) = mOfIn (yOf n) (n + 1 - begin_ (yOf n)) := by unfold mOf; rw [e]
    rw [← em] at m1 m2 m3 m4
    rw [← ek] at k1 k2 k3 k4
    rcases Int.lt_trichotomy (mOf n) (mOf (n + 1)) with h' | h' | h'
    · exact .inr (.inl ⟨e, h'⟩)
    · refine .inr (.inr ⟨e, h'.symm, ?_⟩)
      unfold dOf
      rw [e, ← h']
      omega
    · have := aheadY_mono (yOf n) (mOf (n + 1) + 1) (mOf n) (by omega) (by omega) (by omega)
      omega

/-- a year on the same day. -/
theorem size_year (y m : Int) (h1 : 1 ≤ m) (h2 : m ≤ 12) (h : m ≠ 2) : size (y + 1) m = size y m := by
  rw [size_is _ _ h1 h2, size_is _ _ h1 h2, if_neg h, if_neg h]
theorem year_on (y m d : Int) : num (y + 1) m d - num y m d = 365 + if 2 < m then lp (y + 1) else lp y := by
  unfold num aheadY
  rw [begin_succ]
  split <;> omega
end Gno
end
/-! Plain arithmetic of days of months. No program in sight. -/
section
set_option linter.unusedVariables false
set_option linter.unusedSimpArgs false
namespace Gno
/-- the answer of Check. -/
def onE (k w d : Int) : Int :=
  if k = 1 then (if w = 0 ∧ 1 ≤ d ∧ d ≤ 31 then 0 else 3)
  else if k = 2 then (if (0 ≤ w ∧ w ≤ 6) ∧ d = 0 then 0 else 3)
  else if k = 3 then (if (0 ≤ w ∧ w ≤ 6) ∧ 1 ≤ d ∧ d ≤ 31 then 0 else 3)
  else 8
/-- the day that is found, of a right On (it may lie behind the month). c: 3 more than the number of the month's first day; s: the month's size. -/
def pickR (k w d c s : Int) : Int :=
  if k = 2 then s - ((c + s) % 7 - w + 7) % 7 else if k = 3 then d + (w - (c + d) % 7 + 7) % 7 else d
def pick1 (y m : Int) : Int := num y m 1 + 3
def isYM (y m : Int) : Bool := isYear y && isMonth m
def findR (y m k w d : Int) : Int := pickR k w d (pick1 y m) (size y m)
def findE (y m k w d : Int) : Int :=
  if onE k w d ≠ 0 then onE k w d else if isYM y m = false then 3 else if size y m < findR y m k w d then 4 else 0
def findN (y m k w d : Int) : Int :=
  if onE k w d ≠ 0 then 0 else if isYM y m = false then 0 else if size y m < findR y m k w d then 0 else findR y m k w d

theorem onE_ok {k w d : Int} (h : onE k w d = 0) : (k = 1 ∧ w = 0 ∧ 1 ≤ d ∧ d ≤ 31) ∨ (k = 2 ∧ (0 ≤ w ∧ w ≤ 6) ∧ d = 0) ∨ (k = 3 ∧ (0 ≤ w ∧ w ≤ 6) ∧ 1 ≤ d ∧ d ≤ 31) := by
  unfold onE at h
  by_cases h1 : k = 1
  · rw [if_pos h1] at h
    split at h
    · exact .inl ⟨h1, by assumption⟩
    · omega
  · rw [if_neg h1] at h
    by_cases h2 : k = 2
    · rw [if_pos h2] at h
      split at h
      · exact .inr (.inl ⟨h2, by assumption⟩)
      · omega
    · rw [if_neg h2] at h
      by_cases h3 : k = 3
      · rw [if_pos h3] at h
        split at h
        · exact .inr (.inr ⟨h3, by assumption⟩)
        · omega
      · rw [if_neg h3] at h
        omega
/-- the last one of a weekday. -/
theorem last_is (w d c s : Int) (h1 : 0 ≤ w) (h2 : w ≤ 6) : s - 6 ≤ pickR 2 w d c s ∧ pickR 2 w d c s ≤ s ∧ (c + pickR 2 w d c s) % 7 = w ∧ ∀ j, pickR 2 w d c s < j → j ≤ s → (c + j) % 7 ≠ w := by
  unfold pickR
  rw [if_pos rfl]
  refine ⟨by omega, by omega, by omega, fun j h3 h4 => by omega⟩
/-- the first one of a weekday from a day on. -/
theorem after_is (w d c s : Int) (h1 : 0 ≤ w) (h2 : w ≤ 6) : d ≤ pickR 3 w d c s ∧ pickR 3 w d c s ≤ d + 6 ∧ (c + pickR 3 w d c s) % 7 = w ∧ ∀ j, d ≤ j → j < pickR 3 w d c s → (c + j) % 7 ≠ w := by
  unfold pickR
  rw [if_neg (by omega), if_pos rfl]
  refine ⟨by omega, by omega, by omega, fun j h3 h4 => by omega⟩
theorem exact_is (w d c s : Int) : pickR 1 w d c s = d := by unfold pickR; rw [if_neg (by omega), if_neg (by omega)]
/-- the number of a day of the month. -/
theorem num_pick (y m j : Int) : num y m j + 4 = pick1 y m + j := by unfold pick1 num; omega
theorem weekOf_pick (y m j : Int) : (num y m j + 4) % 7 = (pick1 y m + j) % 7 := by rw [num_pick]
/-- what the reference has found when the days ahead of j are gone through: by kind. -/
def acc1 (d j f : Int) : Prop := f = if d < j then d else 0
def acc2 (R j f : Int) : Prop := 0 ≤ f ∧ (R < j → f = R)
def acc3 (R j f : Int) : Prop := f = if R < j then R else 0
theorem acc1_set {d j : Int} (h : j = d) : acc1 d (j + 1) j := by unfold acc1; rw [if_pos (by omega)]; exact h
theorem acc1_keep {d j f : Int} (h : acc1 d j f) (hj : ¬ j = d) : acc1 d (j + 1) f := by
  unfold acc1 at h ⊢
  rw [h]
  by_cases h1 : d < j
  · rw [if_pos h1, if_pos (by omega)]
  · rw [if_neg h1, if_neg (by omega)]
theorem acc2_set {w c s j : Int} (h1 : 0 ≤ w) (h2 : w ≤ 6) (hj : 0 ≤ j) (hs : j ≤ s) (hm : (c + j) % 7 = w) : acc2 (pickR 2 w 0 c s) (j + 1) j := by
  obtain ⟨_, _, _, l4⟩ := last_is w 0 c s h1 h2
  refine ⟨hj, fun h => ?_⟩
  rcases Int.lt_or_le (pickR 2 w 0 c s) j with h' | h'
  · exact absurd hm (l4 j h' hs)
  · omega
theorem acc2_keep {w c s j f : Int} (h1 : 0 ≤ w) (h2 : w ≤ 6) (h : acc2 (pickR 2 w 0 c s) j f) (hm : ¬ (c + j) % 7 = w) : acc2 (pickR 2 w 0 c s) (j + 1) f := by
  obtain ⟨_, _, l3, _⟩ := last_is w 0 c s h1 h2
  refine ⟨h.1, fun h' => ?_⟩
  rcases Int.lt_or_le (pickR 2 w 0 c s) j with h'' | h''
  · exact h.2 h''
  · have e : pickR 2 w 0 c s = j := by omega
    rw [e] at l3
    exact absurd l3 hm
theorem acc3_set {w d c s j f : Int} (h1 : 0 ≤ w) (h2 : w ≤ 6) (hd : 1 ≤ d) (h : acc3 (pickR 3 w d c s) j f) (hm : (c + j) % 7 = w) (hj : d ≤ j) (hf : f = 0) : acc3 (pickR 3 w d c s) (j + 1) j := by
  obtain ⟨l1, _, _, l4⟩ := after_is w d c s h1 h2
  unfold acc3 at h ⊢
  by_cases h3 : pickR 3 w d c s < j
  · rw [if_pos h3] at h
    omega
  · by_cases h4 : j < pickR 3 w d c s
    · exact absurd hm (l4 j hj h4)
    · rw [if_pos (by omega)]
      omega
theorem acc3_keep {w d c s j f : Int} (h1 : 0 ≤ w) (h2 : w ≤ 6) (h : acc3 (pickR 3 w d c s) j f) (hk : ¬ ((c + j) % 7 = w ∧ d ≤ j ∧ f = 0)) : acc3 (pickR 3 w d c s) (j + 1) f := by
  obtain ⟨l1, _, l3, _⟩ := after_is w d c s h1 h2
  unfold acc3 at h ⊢
  by_cases h3 : pickR 3 w d c s < j
  · rw [if_pos h3] at h
    rw [if_pos (by omega), h]
  · rw [if_neg h3] at h
    by_cases h4 : pickR 3 w d c s = j
    · rw [h4] at l3 l1
      exact absurd ⟨l3, l1, h⟩ hk
    · rw [if_neg (by omega), h]
end Gno
end
