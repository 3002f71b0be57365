/- Parts of a proof, laid together. -/
import Derived.Lib.TrimU
import Derived.Deep.AppendLies
import Derived.Lib.ItoaNum
import Derived.Lib.ItoaMem
import Derived.Lib.AtoiAll
import Derived.Lib.Atoi
import Derived.Lib.IndexMore
import Derived.Lib.Strings
set_option linter.unusedSimpArgs false
set_option linter.unusedVariables false
/-! Plain arithmetic of days, months and years: no program in sight. -/
section
set_option linter.unusedVariables false
set_option linter.unusedSimpArgs false
namespace Gno

/-- may y be a year? -/
def isYear (y : Int) : Bool := decide (1970 ≤ y ∧ y ≤ 2029)
def isMonth (m : Int) : Bool := decide (1 ≤ m ∧ m ≤ 12)
/-- 1 in a leap year, else 0. -/
def lp (y : Int) : Int := if y % 4 = 0 then 1 else 0
/-- days of a plain year ahead of month m (13: all). -/
def cum0 (m : Int) : Int :=
  if m ≤ 1 then 0 else if m = 2 then 31 else if m = 3 then 59 else if m = 4 then 90 else if m = 5 then 120 else if m = 6 then 151
  else if m = 7 then 181 else if m = 8 then 212 else if m = 9 then 243 else if m = 10 then 273 else if m = 11 then 304 else if m = 12 then 334 else 365
/-- days of year y ahead of month m. -/
def aheadY (y m : Int) : Int := cum0 m + if 2 < m then lp y else 0
def begin_ (y : Int) : Int := 365 * (y - 1970) + (y - 1970 + 1) / 4
/-- the size of a month. -/
def size (y m : Int) : Int := aheadY y (m + 1) - aheadY y m
/-- is there such a date? -/
def isDate (y m d : Int) : Bool := decide ((1970 ≤ y ∧ y ≤ 2029) ∧ (1 ≤ m ∧ m ≤ 12) ∧ 1 ≤ d ∧ d ≤ size y m)
/-- the number of a date. -/
def num (y m d : Int) : Int := begin_ y + aheadY y m + d - 1
def isDay (n : Int) : Bool := decide (0 ≤ n ∧ n ≤ 21914)

theorem lp_01 (y : Int) : 0 ≤ lp y ∧ lp y ≤ 1 := by unfold lp; split <;> omega

/-- the months, one by one. -/
theorem months {m : Int} (h1 : 1 ≤ m) (h2 : m ≤ 12) : m = 1 ∨ m = 2 ∨ m = 3 ∨ m = 4 ∨ m = 5 ∨ m = 6 ∨ m = 7 ∨ m = 8 ∨ m = 9 ∨ m = 10 ∨ m = 11 ∨ m = 12 := by omega

theorem cum0_bd (m : Int) : 0 ≤ cum0 m ∧ cum0 m ≤ 365 := by
  unfold cum0; repeat' split
  all_goals omega
theorem aheadY_bd (y m : Int) : 0 ≤ aheadY y m ∧ aheadY y m ≤ 366 := by
  have := cum0_bd m; have := lp_01 y
  unfold aheadY; split <;> omega
theorem begin_bd (y : Int) (h1 : 1970 ≤ y) (h2 : y ≤ 2030) : 0 ≤ begin_ y ∧ begin_ y ≤ 21915 := by unfold begin_; omega
theorem begin_succ (y : Int) : begin_ (y + 1) = begin_ y + 365 + lp y := by unfold begin_ lp; split <;> omega
theorem begin_1970 : begin_ 1970 = 0 := rfl
/-- the sizes of the months. -/
theorem size_is (y m : Int) (h1 : 1 ≤ m) (h2 : m ≤ 12) :
    size y m = if m = 2 then 28 + lp y else if m = 4 ∨ m = 6 ∨ m = 9 ∨ m = 11 then 30 else 31 := by
  rcases months h1 h2 with rfl | rfl | rfl | rfl | rfl | rfl | rfl | rfl | rfl | rfl | rfl | rfl <;> simp [size, aheadY, cum0] <;> omega
theorem size_bd (y m : Int) (h1 : 1 ≤ m) (h2 : m ≤ 12) : 28 ≤ size y m ∧ size y m ≤ 31 := by
  have := lp_01 y
  rw [size_is y m h1 h2]; repeat' split
  all_goals omega
theorem aheadY_succ (y m : Int) : aheadY y (m + 1) = aheadY y m + size y m := by unfold size; omega
theorem aheadY_one (y : Int) : aheadY y 1 = 0 := by simp [aheadY, cum0]
theorem aheadY_13 (y : Int) : aheadY y 13 = 365 + lp y := by simp [aheadY, cum0]
end Gno
end
/-! Plain arithmetic: the date of a day. No program in sight. -/
section
set_option linter.unusedVariables false
set_option linter.unusedSimpArgs false
namespace Gno

/-- the year of a day. -/
def yOf (n : Int) : Int := 1970 + (4 * n + 2) / 1461
/-- the first place from m on behind which f passes r (k steps at most). -/
def scan (f : Int → Int) (r : Int) : Nat → Int → Int
  | 0, m => m
  | k + 1, m => if r < f (m + 1) then m else scan f r k (m + 1)
theorem scan_spec (f : Int → Int) (r : Int) : ∀ (k : Nat) (m : Int), f m ≤ r → r < f (m + k + 1) →
    m ≤ scan f r k m ∧ scan f r k m ≤ m + k ∧ f (scan f r k m) ≤ r ∧ r < f (scan f r k m + 1)
  | 0, m, h1, h2 => by
    simp only [scan]
    exact ⟨by omega, by omega, h1, by simpa using h2⟩
  | k + 1, m, h1, h2 => by
    simp only [scan]
    by_cases h : r < f (m + 1)
    · rw [if_pos h]
      exact ⟨by omega, by omega, h1, h⟩
    · rw [if_neg h]
      have ih := scan_spec f r k (m + 1) (by omega) (by rw [show m + 1 + (k : Int) + 1 = m + ((k + 1 : Nat) : Int) + 1 by omega]; exact h2)
      exact ⟨by omega, by omega, ih.2.2.1, ih.2.2.2⟩
/-- the month of the r-th day of a year. -/
def mOfIn (y r : Int) : Int := scan (aheadY y) r 11 1
def mOf (n : Int) : Int := mOfIn (yOf n) (n - begin_ (yOf n))
def dOf (n : Int) : Int := n - begin_ (yOf n) - aheadY (yOf n) (mOf n) + 1

theorem yOf_eq (n y : Int) (h1 : begin_ y ≤ n) (h2 : n < begin_ (y + 1)) : yOf n = y := by unfold begin_ at h1 h2; unfold yOf; omega

theorem aheadY_mono_nat (y a : Int) (h1 : 1 ≤ a) : ∀ n : Nat, a + n ≤ 13 → aheadY y a ≤ aheadY y (a + n)
  | 0, _ => by simp
  | n + 1, h => by
    have ih := aheadY_mono_nat y a h1 n (by omega)
    have hs := aheadY_succ y (a + n)
    have hb := size_bd y (a + n) (by omega) (by omega)
    rw [show a + ((n + 1 : Nat) : Int) = a + n + 1 by omega]
    omega
theorem aheadY_mono (y a b : Int) (h1 : 1 ≤ a) (h2 : a ≤ b) (h3 : b ≤ 13) : aheadY y a ≤ aheadY y b := by
  have := aheadY_mono_nat y a h1 (b - a).toNat (by omega)
  rw [show a + ((b - a).toNat : Int) = b by omega] at this
  exact this

/-- what holds of the month. -/
theorem mOfIn_spec (y r : Int) (h1 : 0 ≤ r) (h2 : r < 365 + lp y) :
    1 ≤ mOfIn y r ∧ mOfIn y r ≤ 12 ∧ aheadY y (mOfIn y r) ≤ r ∧ r < aheadY y (mOfIn y r + 1) := by
  have h := scan_spec (aheadY y) r 11 1 (by rw [aheadY_one]; exact h1) (by rw [show (1 : Int) + ((11 : Nat) : Int) + 1 = 13 from rfl, aheadY_13]; exact h2)
  unfold mOfIn
  exact ⟨h.1, by omega, h.2.2.1, h.2.2.2⟩

/-- and nothing else has it. -/
theorem mOfIn_eq (y r m : Int) (h1 : 1 ≤ m) (h2 : m ≤ 12) (h3 : aheadY y m ≤ r) (h4 : r < aheadY y (m + 1)) : mOfIn y r = m := by
  have a0 := aheadY_mono y 1 m (by omega) h1 (by omega)
  have a1 := aheadY_mono y (m + 1) 13 (by omega) (by omega) (by omega)
  rw [aheadY_one] at a0
  rw [aheadY_13] at a1
  obtain ⟨m1, m2, m3, m4⟩ := mOfIn_spec y r (by omega) (by omega)
  rcases Int.lt_trichotomy (mOfIn y r) m with h | h | h
  · have := aheadY_mono y (mOfIn y r + 1) m (by omega) (by omega) (by omega)
    omega
  · exact h
  · have := aheadY_mono y (m + 1) (mOfIn y r) (by omega) (by omega) (by omega)
    omega

theorem isDate_iff (y m d : Int) : isDate y m d = true ↔ (1970 ≤ y ∧ y ≤ 2029) ∧ (1 ≤ m ∧ m ≤ 12) ∧ 1 ≤ d ∧ d ≤ size y m := by simp [isDate]
theorem isDay_iff (n : Int) : isDay n = true ↔ 0 ≤ n ∧ n ≤ 21914 := by simp [isDay]

/-- the month's end lies in the year. -/
theorem aheadY_le_year (y m : Int) (h1 : 1 ≤ m) (h2 : m ≤ 12) : 0 ≤ aheadY y m ∧ aheadY y (m + 1) ≤ 365 + lp y := by
  have a0 := aheadY_mono y 1 m (by omega) h1 (by omega)
  have a1 := aheadY_mono y (m + 1) 13 (by omega) (by omega) (by omega)
  rw [aheadY_one] at a0
  rw [aheadY_13] at a1
  exact ⟨a0, a1⟩

/-- DAYS OF A DATE: it is a day, and its date is that. -/
theorem day_of (y m d : Int) (h : isDate y m d = true) : isDay (num y m d) = true ∧ yOf (num y m d) = y ∧ mOf (num y m d) = m ∧ dOf (num y m d) = d := by
  obtain ⟨⟨y1, y2⟩, ⟨m1, m2⟩, d1, d2⟩ := (isDate_iff y m d).1 h
  obtain ⟨a1, a2⟩ := aheadY_le_year y m m1 m2
  have a3 := aheadY_succ y m
  have e1 : yOf (num y m d) = y := yOf_eq _ _ (by unfold num; omega) (by rw [begin_succ]; unfold num; omega)
  have e2 : mOf (num y m d) = m := by
    unfold mOf
    rw [e1]
    exact mOfIn_eq _ _ _ m1 m2 (by unfold num; omega) (by unfold num; omega)
  have b1 := begin_bd y y1 (by omega)
  have b2 := begin_bd (y + 1) (by omega) (by omega)
  rw [begin_succ] at b2
  refine ⟨(isDay_iff _).2 ⟨?_, ?_⟩, e1, e2, ?_⟩
  · unfold num; omega
  · unfold num; omega
  · unfold dOf
    rw [e2, e1]
    unfold num
    omega

/-- the reference's numbers. -/
def yearDays (y : Int) : Int := if y % 4 = 0 then 366 else 365
theorem yearDays_is (y : Int) : yearDays y = 365 + lp y := by unfold yearDays lp; split <;> rfl
end Gno
end
/-! Texts by runes and by bytes: a function of the library that looks for a rune, where all runes beyond the first 128 are looked for. No program in sight. -/
section
set_option linter.unusedVariables false
set_option linter.unusedSimpArgs false
namespace Gno
open Go Go.Lib

/-- where the first rune of which p holds begins, from a place on; -1: nowhere. -/
def idxR (p : Nat → Bool) (s : ByteArray) : Nat → Nat → Int
  | 0, _ => -1
  | f + 1, pos => if pos < s.size then (if p (Utf8.decode s pos).1 = true then (pos : Int) else idxR p s f (pos + (Utf8.decode s pos).2)) else -1
theorem idxR_end (p : Nat → Bool) (s : ByteArray) (f pos : Nat) (h : ¬ pos < s.size) : idxR p s f pos = -1 := by cases f <;> simp [idxR, h]
def hasRune (p : Nat → Bool) (s : ByteArray) : Bool := decide (0 ≤ idxR p s s.size 0)

theorem dec_low (n b0 b1 b2 b3 : Nat) (h : b0 < 128) : decodeN n b0 b1 b2 b3 = (b0, 1) := by unfold decodeN; rw [if_pos h]
theorem dec_high (n b0 b1 b2 b3 : Nat) (h : 128 ≤ b0) : 128 ≤ (decodeN n b0 b1 b2 b3).1 := by
  unfold decodeN
  rw [if_neg (by omega)]
  split
  · split
    · simp only; omega
    · simp
  · split
    · split
      · simp only; omega
      · simp
    · split
      · split
        · simp only; omega
        · simp
      · simp

theorem idxR_iff (p : Nat → Bool) (hp : ∀ r, 128 ≤ r → p r = true) (s : ByteArray) : ∀ (f pos : Nat), s.size ≤ pos + f → (0 ≤ idxR p s f pos ↔ ∃ i, pos ≤ i ∧ i < s.size ∧ p (s.get! i).toNat = true)
  | 0, pos, h => by
    constructor
    · intro h'; simp [idxR] at h'
    · rintro ⟨i, h1, h2, _⟩; omega
  | f + 1, pos, h => by
    by_cases hps : pos < s.size
    · simp only [idxR, hps, if_true]
      have hd := decode_at s pos
      by_cases hlo : (s.get! pos).toNat < 128
      · rw [dec_low _ _ _ _ _ hlo] at hd
        rw [hd]
        simp only
        cases hpb : p (s.get! pos).toNat
        · rw [if_neg (by simp)]
          rw [idxR_iff p hp s f (pos + 1) (by omega)]
          constructor
          · rintro ⟨i, h1, h2, h3⟩; exact ⟨i, by omega, h2, h3⟩
          · rintro ⟨i, h1, h2, h3⟩
            refine ⟨i, ?_, h2, h3⟩
            rcases Nat.lt_or_ge pos i with h4 | h4
            · omega
            · have : i = pos := by omega
              rw [this, hpb] at h3
              cases h3
        · rw [if_pos rfl]
          exact ⟨fun _ => ⟨pos, Nat.le_refl _, hps, hpb⟩, fun _ => by omega⟩
      · have hh : 128 ≤ (Utf8.decode s pos).1 := by rw [hd]; exact dec_high _ _ _ _ _ (by omega)
        rw [if_pos (hp _ hh)]
        exact ⟨fun _ => ⟨pos, Nat.le_refl _, hps, hp _ (by omega)⟩, fun _ => by omega⟩
    · rw [idxR_end _ _ _ _ hps]
      constructor
      · intro h'; omega
      · rintro ⟨i, h1, h2, _⟩; omega

theorem get_list (s : ByteArray) (i : Nat) (h : i < s.size) : s.get! i = s.data.toList[i]'(by simpa using h) := by
  obtain ⟨a⟩ := s
  have h' : i < a.size := h
  show a[i]! = a.toList[i]
  rw [getElem!_pos a i h']
  simp

/-- a rune is found just where a byte is. -/
theorem hasRune_any (p : Nat → Bool) (hp : ∀ r, 128 ≤ r → p r = true) (s : ByteArray) : hasRune p s = s.data.toList.any fun b => p b.toNat := by
  rw [Bool.eq_iff_iff, List.any_eq_true]
  unfold hasRune
  rw [decide_eq_true_iff, idxR_iff p hp s s.size 0 (by omega)]
  constructor
  · rintro ⟨i, _, h2, h3⟩
    rw [get_list s i h2] at h3
    exact ⟨_, List.getElem_mem _, h3⟩
  · rintro ⟨b, hb, h⟩
    obtain ⟨i, hi, rfl⟩ := List.getElem_of_mem hb
    have hi' : i < s.size := by simpa using hi
    exact ⟨i, by omega, hi', by rw [get_list s i hi']; exact h⟩

/-- is the number a letter? -/
def isLet (n : Nat) : Bool := decide (65 ≤ n ∧ n ≤ 90) || decide (97 ≤ n ∧ n ≤ 122)
def notLet (n : Nat) : Bool := !isLet n
theorem notLet_high (r : Nat) (h : 128 ≤ r) : notLet r = true := by simp [notLet, isLet]; omega
/-- all letters? -/
def allLet (s : ByteArray) : Bool := s.data.toList.all fun b => isLet b.toNat
theorem hasRune_notLet (s : ByteArray) : hasRune notLet s = !allLet s := by
  rw [hasRune_any _ notLet_high, allLet, List.not_all_eq_any_not]
  rfl
end Gno
end
/-! Plain arithmetic: a day on; a year on. No program in sight. -/
section
set_option linter.unusedVariables false
set_option linter.unusedSimpArgs false
namespace Gno

end Gno
end
/-! Plain arithmetic of days of months. No program in sight. -/
section
set_option linter.unusedVariables false
set_option linter.unusedSimpArgs false
namespace Gno
/-- the answer of Check. -/
def onE (k w d : Int) : Int :=
  if k = 1 then (if w = 0 ∧ 1 ≤ d ∧ d ≤ 31 then 0 else 3)
  else if k = 2 then (if (0 ≤ w ∧ w ≤ 6) ∧ d = 0 then 0 else 3)
  else if k = 3 then (if (0 ≤ w ∧ w ≤ 6) ∧ 1 ≤ d ∧ d ≤ 31 then 0 else 3)
  else 8
/-- the day that is found, of a right On (it may lie behind the month). c: 3 more than the number of the month's first day; s: the month's size. -/
def pickR (k w d c s : Int) : Int :=
  if k = 2 then s - ((c + s) % 7 - w + 7) % 7 else if k = 3 then d + (w - (c + d) % 7 + 7) % 7 else d
def pick1 (y m : Int) : Int := num y m 1 + 3
def isYM (y m : Int) : Bool := isYear y && isMonth m
def findR (y m k w d : Int) : Int := pickR k w d (pick1 y m) (size y m)
def findE (y m k w d : Int) : Int :=
  if onE k w d ≠ 0 then onE k w d else if isYM y m = false then 3 else if size y m < findR y m k w d then 4 else 0
def findN (y m k w d : Int) : Int :=
  if onE k w d ≠ 0 then 0 else if isYM y m = false then 0 else if size y m < findR y m k w d then 0 else findR y m k w d

theorem onE_ok {k w d : Int} (h : onE k w d = 0) : (k = 1 ∧ w = 0 ∧ 1 ≤ d ∧ d ≤ 31) ∨ (k = 2 ∧ (0 ≤ w ∧ w ≤ 6) ∧ d = 0) ∨ (k = 3 ∧ (0 ≤ w ∧ w ≤ 6) ∧ 1 ≤ d ∧ d ≤ 31) := by
  unfold onE at h
  by_cases h1 : k = 1
  · rw [if_pos h1] at h
    split at h
    · exact .inl ⟨h1, by assumption⟩
    · omega
  · rw [if_neg h1] at h
    by_cases h2 : k = 2
    · rw [if_pos h2] at h
      split at h
      · exact .inr (.inl ⟨h2, by assumption⟩)
      · omega
    · rw [if_neg h2] at h
      by_cases h3 : k = 3
      · rw [if_pos h3] at h
        split at h
        · exact .inr (.inr ⟨h3, by assumption⟩)
        · omega
      · rw [if_neg h3] at h
        omega
/-- the last one of a weekday. -/
theorem last_is (w d c s : Int) (h1 : 0 ≤ w) (h2 : w ≤ 6) : s - 6 ≤ pickR 2 w d c s ∧ pickR 2 w d c s ≤ s ∧ (c + pickR 2 w d c s) % 7 = w ∧ ∀ j, pickR 2 w d c s < j → j ≤ s → (c + j) % 7 ≠ w := by
  unfold pickR
  rw [if_pos rfl]
  refine ⟨by omega, by omega, by omega, fun j h3 h4 => by omega⟩
/-- the first one of a weekday from a day on. -/
theorem after_is (w d c s : Int) (h1 : 0 ≤ w) (h2 : w ≤ 6) : d ≤ pickR 3 w d c s ∧ pickR 3 w d c s ≤ d + 6 ∧ (c + pickR 3 w d c s) % 7 = w ∧ ∀ j, d ≤ j → j < pickR 3 w d c s → (c + j) % 7 ≠ w := by
  unfold pickR
  rw [if_neg (by omega), if_pos rfl]
  refine ⟨by omega, by omega, by omega, fun j h3 h4 => by omega⟩
theorem exact_is (w d c s : Int) : pickR 1 w d c s = d := by unfold pickR; rw [if_neg (by omega), if_neg (by omega)]
/-- the number of a day of the month. -/
theorem num_pick (y m j : Int) : num y m j + 4 = pick1 y m + j := by unfold pick1 num; omega
theorem weekOf_pick (y m j : Int) : (num y m j + 4) % 7 = (pick1 y m + j) % 7 := by rw [num_pick]
/-- what the reference has found when the days ahead of j are gone through: by kind. -/
def acc1 (d j f : Int) : Prop := f = if d < j then d else 0
def acc2 (R j f : Int) : Prop := 0 ≤ f ∧ (R < j → f = R)
def acc3 (R j f : Int) : Prop := f = if R < j then R else 0
theorem acc1_set {d j : Int} (h : j = d) : acc1 d (j + 1) j := by unfold acc1; rw [if_pos (by omega)]; exact h
theorem acc1_keep {d j f : Int} (h : acc1 d j f) (hj : ¬ j = d) : acc1 d (j + 1) f := by
  unfold acc1 at h ⊢
  rw [h]
  by_cases h1 : d < j
  · rw [if_pos h1, if_pos (by omega)]
  · rw [if_neg h1, if_neg (by omega)]
theorem acc2_set {w c s j : Int} (h1 : 0 ≤ w) (h2 : w ≤ 6) (hj : 0 ≤ j) (hs : j ≤ s) (hm : (c + j) % 7 = w) : acc2 (pickR 2 w 0 c s) (j + 1) j := by
  obtain ⟨_, _, _, l4⟩ := last_is w 0 c s h1 h2
  refine ⟨hj, fun h => ?_⟩
  rcases Int.lt_or_le (pickR 2 w 0 c s) j with h' | h'
  · exact absurd hm (l4 j h' hs)
  · omega
theorem acc2_keep {w c s j f : Int} (h1 : 0 ≤ w) (h2 : w ≤ 6) (h : acc2 (pickR 2 w 0 c s) j f) (hm : ¬ (c + j) % 7 = w) : acc2 (pickR 2 w 0 c s) (j + 1) f := by
  obtain ⟨_, _, l3, _⟩ := last_is w 0 c s h1 h2
  refine ⟨h.1, fun h' => ?_⟩
  rcases Int.lt_or_le (pickR 2 w 0 c s) j with h'' | h''
  · exact h.2 h''
  · have e : pickR 2 w 0 c s = j := by omega
    rw [e] at l3
    exact absurd l3 hm
theorem acc3_set {w d c s j f : Int} (h1 : 0 ≤ w) (h2 : w ≤ 6) (hd : 1 ≤ d) (h : acc3 (pickR 3 w d c s) j f) (hm : (c + j) % 7 = w) (hj : d ≤ j) (hf : f = 0) : acc3 (pickR 3 w d c s) (j + 1) j := by
  obtain ⟨l1, _, _, l4⟩ := after_is w d c s h1 h2
  unfold acc3 at h ⊢
  by_cases h3 : pickR 3 w d c s < j
  · rw [if_pos h3] at h
    omega
  · by_cases h4 : j < pickR 3 w d c s
    · exact absurd hm (l4 j hj h4)
    · rw [if_pos (by omega)]
      omega
theorem acc3_keep {w d c s j f : Int} (h1 : 0 ≤ w) (h2 : w ≤ 6) (h : acc3 (pickR 3 w d c s) j f) (hk : ¬ ((c + j) % 7 = w ∧ d ≤ j ∧ f = 0)) : acc3 (pickR 3 w d c s) (j + 1) f := by
  obtain ⟨l1, _, l3, _⟩ := after_is w d c s h1 h2
  unfold acc3 at h ⊢
  by_cases h3 : pickR 3 w d c s < j
  · rw [if_pos h3] at h
    rw [if_pos (by omega), h]
  · rw [if_neg h3] at h
    by_cases h4 : pickR 3 w d c s = j
    · rw [h4] at l3 l1
      exact absurd ⟨l3, l1, h⟩ hk
    · rw [if_neg (by omega), h]
end Gno
end
/-! Rules: the plain functions. No program in sight. -/
section
set_option linter.unusedVariables false
set_option linter.unusedSimpArgs false
namespace Gno
/-- the numbers of a rule that have bounds of their own. -/
def ruleBasic (fy ty mo a sv : Int) : Bool := decide (1970 ≤ fy ∧ fy ≤ ty ∧ ty ≤ 2029 ∧ (1 ≤ mo ∧ mo ≤ 12) ∧ (0 ≤ a ∧ a ≤ 86400) ∧ (0 ≤ sv ∧ sv ≤ 7200))
theorem ruleBasic_iff (fy ty mo a sv : Int) : ruleBasic fy ty mo a sv = true ↔ 1970 ≤ fy ∧ fy ≤ ty ∧ ty ≤ 2029 ∧ (1 ≤ mo ∧ mo ≤ 12) ∧ (0 ≤ a ∧ a ≤ 86400) ∧ (0 ≤ sv ∧ sv ≤ 7200) := by unfold ruleBasic; rw [decide_eq_true_iff]
def letOk (le : ByteArray) : Bool := decide (le.size ≤ 12) && allLet le
def yearsOk (fy ty mo k wk d : Int) : Prop := ∀ z, fy ≤ z → z ≤ ty → findE z mo k wk d = 0
open Classical in
/-- the answer of Check. -/
noncomputable def ruleE (fy ty mo k wk d a sv : Int) (le : ByteArray) : Int :=
  if ruleBasic fy ty mo a sv = false then 3 else if onE k wk d ≠ 0 then onE k wk d else if letOk le = false then 5 else if yearsOk fy ty mo k wk d then 0 else 4

section
variable {fy ty mo k wk d a sv : Int} {le : ByteArray}
theorem ruleE_basic (h : ruleBasic fy ty mo a sv = false) : ruleE fy ty mo k wk d a sv le = 3 := by unfold ruleE; rw [if_pos h]
theorem ruleE_on (h : ruleBasic fy ty mo a sv = true) (ho : onE k wk d ≠ 0) : ruleE fy ty mo k wk d a sv le = onE k wk d := by
  unfold ruleE; rw [if_neg (by simp [h]), if_pos ho]
theorem ruleE_let (h : ruleBasic fy ty mo a sv = true) (ho : onE k wk d = 0) (hl : letOk le = false) : ruleE fy ty mo k wk d a sv le = 5 := by
  unfold ruleE; rw [if_neg (by simp [h]), if_neg (by omega), if_pos hl]
theorem ruleE_year (h : ruleBasic fy ty mo a sv = true) (ho : onE k wk d = 0) (hl : letOk le = true) {y : Int} (h1 : fy ≤ y) (h2 : y ≤ ty) (h3 : ¬ findE y mo k wk d = 0) : ruleE fy ty mo k wk d a sv le = 4 := by
  unfold ruleE; rw [if_neg (by simp [h]), if_neg (by omega), if_neg (by simp [hl]), if_neg (fun hh => h3 (hh y h1 h2))]
theorem ruleE_ok (h : ruleBasic fy ty mo a sv = true) (ho : onE k wk d = 0) (hl : letOk le = true) (hy : yearsOk fy ty mo k wk d) : ruleE fy ty mo k wk d a sv le = 0 := by
  unfold ruleE; rw [if_neg (by simp [h]), if_neg (by omega), if_neg (by simp [hl]), if_pos hy]
/-- what a right rule is. -/
theorem ruleE_zero (h : ruleE fy ty mo k wk d a sv le = 0) : ruleBasic fy ty mo a sv = true ∧ onE k wk d = 0 ∧ letOk le = true ∧ yearsOk fy ty mo k wk d := by
  unfold ruleE at h
  cases h1 : ruleBasic fy ty mo a sv
  · rw [if_pos h1] at h; omega
  · rw [if_neg (by simp [h1])] at h
    by_cases h2 : onE k wk d ≠ 0
    · rw [if_pos h2] at h; exact absurd h h2
    · rw [if_neg h2] at h
      cases h3 : letOk le
      · rw [if_pos h3] at h; omega
      · rw [if_neg (by simp [h3])] at h
        by_cases h4 : yearsOk fy ty mo k wk d
        · exact ⟨rfl, by omega, rfl, h4⟩
        · rw [if_neg h4] at h; omega
/-- the years ahead of y are right. -/
def yearsTo (fy y mo k wk d : Int) : Prop := ∀ z, fy ≤ z → z < y → findE z mo k wk d = 0
theorem yearsTo_start : yearsTo fy fy mo k wk d := fun z h1 h2 => by omega
theorem yearsTo_step {y : Int} (h : yearsTo fy y mo k wk d) (hy : findE y mo k wk d = 0) : yearsTo fy (y + 1) mo k wk d := fun z h1 h2 => by
  rcases Int.lt_or_le z y with h3 | h3
  · exact h z h1 h3
  · obtain rfl : z = y := by omega
    exact hy
theorem yearsTo_end {y : Int} (h : yearsTo fy y mo k wk d) (hy : ty < y) : yearsOk fy ty mo k wk d := fun z h1 h2 => h z h1 (by omega)
end
end Gno
end
/-! Plain: texts of lines, lines of words; what was joined is split as it was. -/
section
set_option linter.unusedVariables false
set_option linter.unusedSimpArgs false
namespace Gno
abbrev Bt := List UInt8
/-- words, a blank between. -/
def joinW : List Bt → Bt
  | [] => []
  | [a] => a
  | a :: b :: t => a ++ 32 :: joinW (b :: t)
/-- a line of words. -/
def lineW (ws : List Bt) : Bt := joinW ws ++ [10]
/-- a text of lines. -/
def textW (ls : List (List Bt)) : Bt := ls.flatMap lineW
theorem textW_app (a b : List (List Bt)) : textW (a ++ b) = textW a ++ textW b := by unfold textW; rw [List.flatMap_append]
theorem textW_cons (a : List Bt) (b : List (List Bt)) : textW (a :: b) = lineW a ++ textW b := by unfold textW; rw [List.flatMap_cons]
/-- a text split at a byte. -/
def splitB (c : UInt8) : Bt → List Bt
  | [] => [[]]
  | x :: t => if x = c then [] :: splitB c t else match splitB c t with
    | h :: r => (x :: h) :: r
    | [] => [[x]]
theorem splitB_ne (c : UInt8) (s : Bt) : splitB c s ≠ [] := by
  cases s with
  | nil => simp [splitB]
  | cons x t =>
    unfold splitB
    split
    · simp
    · split <;> simp
theorem splitB_none {c : UInt8} : ∀ {s : Bt}, c ∉ s → splitB c s = [s]
  | [], _ => rfl
  | x :: t, h => by
    have h1 : x ≠ c := fun e => h (by rw [e]; exact List.mem_cons_self ..)
    have h2 : c ∉ t := fun e => h (List.mem_cons_of_mem _ e)
    unfold splitB
    rw [if_neg h1, splitB_none h2]
theorem splitB_app {c : UInt8} : ∀ {a : Bt} (b : Bt), c ∉ a → splitB c (a ++ c :: b) = a :: splitB c b
  | [], b, _ => by
    show splitB c (c :: b) = _
    rw [splitB, if_pos rfl]
  | x :: t, b, h => by
    have h1 : x ≠ c := fun e => h (by rw [e]; exact List.mem_cons_self ..)
    have h2 : c ∉ t := fun e => h (List.mem_cons_of_mem _ e)
    show splitB c (x :: (t ++ c :: b)) = _
    rw [splitB, if_neg h1, splitB_app b h2]
theorem split_join : ∀ {ws : List Bt}, ws ≠ [] → (∀ w ∈ ws, (32 : UInt8) ∉ w) → splitB 32 (joinW ws) = ws
  | [], h, _ => absurd rfl h
  | [a], _, h => splitB_none (h a (by simp))
  | a :: b :: t, _, h => by
    show splitB 32 (a ++ 32 :: joinW (b :: t)) = _
    rw [splitB_app _ (h a (by simp)), split_join (by simp) (fun w hw => h w (List.mem_cons_of_mem _ hw))]
theorem join_no {c : UInt8} (hc : c ≠ 32) : ∀ {ws : List Bt}, (∀ w ∈ ws, c ∉ w) → c ∉ joinW ws
  | [], _ => by simp [joinW]
  | [a], h => h a (by simp)
  | a :: b :: t, h => by
    show c ∉ a ++ 32 :: joinW (b :: t)
    intro hm
    rcases List.mem_append.1 hm with hm | hm
    · exact h a (by simp) hm
    · rcases List.mem_cons.1 hm with hm | hm
      · exact hc hm
      · exact join_no hc (fun w hw => h w (List.mem_cons_of_mem _ hw)) hm
/-- a text's lines, as they are split at their ends: the last one is what stands behind the last end. -/
theorem split_text : ∀ {ls : List (List Bt)}, (∀ l ∈ ls, ∀ w ∈ l, (10 : UInt8) ∉ w) → splitB 10 (textW ls) = ls.map joinW ++ [[]]
  | [], _ => rfl
  | a :: t, h => by
    rw [textW_cons]
    have e : lineW a ++ textW t = joinW a ++ 10 :: textW t := by unfold lineW; simp
    rw [e, splitB_app _ (join_no (by decide) (h a (by simp))), split_text (fun l hl => h l (List.mem_cons_of_mem _ hl))]
    rfl
end Gno
end
/-! Plain: data as lines of words; what was shown is read as it was, by both readers. -/
section
set_option linter.unusedVariables false
set_option linter.unusedSimpArgs false
namespace Gno
/-- what data hold. -/
structure Cn where
  ss : List (Bt × List (List Int × Bt))
  zs : List (Bt × List (List Int × Bt × Int))
  ls : List (Bt × Bt)
def wSet : Bt := [115, 101, 116]
def wRule : Bt := [114, 117, 108, 101]
def wZone : Bt := [122, 111, 110, 101]
def wEra : Bt := [101, 114, 97]
def wLink : Bt := [108, 105, 110, 107]
/-- a letter as a word; a word as a letter. -/
def letW (l : Bt) : Bt := if l = [] then [45] else l
def wLet (w : Bt) : Bt := if w = [45] then [] else w
theorem wLet_letW {l : Bt} (h : l ≠ [45]) : wLet (letW l) = l := by
  unfold letW wLet
  by_cases h0 : l = []
  · rw [if_pos h0, if_pos rfl, h0]
  · rw [if_neg h0, if_neg h]
section
variable (nm : Int → Bt)
def ruleW (r : List Int × Bt) : List Bt := wRule :: (r.1.map nm ++ [letW r.2])
def eraW (x : List Int × Bt × Int) : List Bt := wEra :: (x.1.map nm ++ [x.2.1, nm x.2.2])
def setW (s : Bt × List (List Int × Bt)) : List (List Bt) := [wSet, s.1] :: s.2.map (ruleW nm)
def zoneW (z : Bt × List (List Int × Bt × Int)) : List (List Bt) := [wZone, z.1] :: z.2.map (eraW nm)
def linkW (l : Bt × Bt) : List Bt := [wLink, l.1, l.2]
/-- the lines of data. -/
def linesC (c : Cn) : List (List Bt) := c.ss.flatMap (setW nm) ++ (c.zs.flatMap (zoneW nm) ++ c.ls.map linkW)
end
/-- one more behind the last one's. -/
def ontoLast {α β : Type} (l : List (α × List β)) (x : β) : List (α × List β) := match l.reverse with
  | [] => []
  | (a, xs) :: t => t.reverse ++ [(a, xs ++ [x])]
theorem onto_snoc {α β : Type} (l : List (α × List β)) (a : α) (xs : List β) (x : β) : ontoLast (l ++ [(a, xs)]) x = l ++ [(a, xs ++ [x])] := by
  unfold ontoLast; simp
/-- the program's reader: one line. -/
def stepP (pn : Bt → Option Int) (c : Cn) (ws : List Bt) : Option Cn := match ws with
  | [] => none
  | k :: t =>
    if k = wSet then (match t with
      | [n] => some { c with ss := c.ss ++ [(n, [])] }
      | _ => none)
    else if k = wRule then (if c.ss = [] then none else match (t.take 8).mapM pn, t.drop 8 with
      | some l, [w] => if l.length = 8 then some { c with ss := ontoLast c.ss (l, wLet w) } else none
      | _, _ => none)
    else if k = wZone then (match t with
      | [n] => some { c with zs := c.zs ++ [(n, [])] }
      | _ => none)
    else if k = wEra then (if c.zs = [] then none else match (t.take 3).mapM pn, t.drop 3 with
      | some l, [f, u] => (match pn u with
        | some v => if l.length = 3 then some { c with zs := ontoLast c.zs (l, f, v) } else none
        | none => none)
      | _, _ => none)
    else if k = wLink then (match t with
      | [a, b] => some { c with ls := c.ls ++ [(a, b)] }
      | _ => none)
    else none
def readP (pn : Bt → Option Int) (c : Cn) : List (List Bt) → Option Cn
  | [] => some c
  | l :: t => match stepP pn c l with
    | some d => readP pn d t
    | none => none
theorem readP_app (pn : Bt → Option Int) : ∀ (a b : List (List Bt)) (c : Cn), readP pn c (a ++ b) = (match readP pn c a with | some d => readP pn d b | none => none)
  | [], b, c => rfl
  | l :: t, b, c => by
    show (match stepP pn c l with | some d => readP pn d (t ++ b) | none => none) = _
    show _ = (match (match stepP pn c l with | some d => readP pn d t | none => none) with | some d => readP pn d b | none => none)
    cases stepP pn c l with
    | none => rfl
    | some d => exact readP_app pn t b d
/-- what can be shown: numbers that are read as they are, letters that are no '-'. -/
structure CnOk (nm : Int → Bt) (pn : Bt → Option Int) (c : Cn) : Prop where
  rules : ∀ s ∈ c.ss, ∀ r ∈ s.2, r.1.length = 8 ∧ (∀ n ∈ r.1, pn (nm n) = some n) ∧ r.2 ≠ [45]
  eras : ∀ z ∈ c.zs, ∀ x ∈ z.2, x.1.length = 3 ∧ (∀ n ∈ x.1, pn (nm n) = some n) ∧ pn (nm x.2.2) = some x.2.2
theorem mapM_nm {nm : Int → Bt} {pn : Bt → Option Int} : ∀ {l : List Int}, (∀ n ∈ l, pn (nm n) = some n) → (l.map nm).mapM pn = some l
  | [], _ => rfl
  | a :: t, h => by
    rw [List.map_cons, List.mapM_cons, h a (by simp), mapM_nm (fun n hn => h n (List.mem_cons_of_mem _ hn))]
    rfl
theorem step_rule {nm : Int → Bt} {pn : Bt → Option Int} {c : Cn} {S : List (Bt × List (List Int × Bt))} {n : Bt} {rs : List (List Int × Bt)} {r : List Int × Bt} (hc : c.ss = S ++ [(n, rs)]) (h8 : r.1.length = 8) (hn : ∀ n ∈ r.1, pn (nm n) = some n) (hl : r.2 ≠ [45]) :
    stepP pn c (ruleW nm r) = some { c with ss := S ++ [(n, rs ++ [r])] } := by
  unfold ruleW stepP
  have e1 : (r.1.map nm ++ [letW r.2]).take 8 = r.1.map nm := by rw [List.take_append_of_le_length (by simp; omega), List.take_of_length_le (by simp; omega)]
  have e2 : (r.1.map nm ++ [letW r.2]).drop 8 = [letW r.2] := by rw [List.drop_append_of_le_length (by simp; omega), List.drop_of_length_le (by simp; omega)]; rfl
  have e3 : ¬ (S ++ [(n, rs)] = []) := by simp
  simp only [if_neg (show ¬ wRule = wSet by decide), if_true, hc, if_neg e3, e1, e2, mapM_nm hn, if_pos h8, wLet_letW hl, onto_snoc]
theorem step_era {nm : Int → Bt} {pn : Bt → Option Int} {c : Cn} {S : List (Bt × List (List Int × Bt × Int))} {n : Bt} {rs : List (List Int × Bt × Int)} {x : List Int × Bt × Int} (hc : c.zs = S ++ [(n, rs)]) (h3 : x.1.length = 3) (hn : ∀ n ∈ x.1, pn (nm n) = some n) (hu : pn (nm x.2.2) = some x.2.2) :
    stepP pn c (eraW nm x) = some { c with zs := S ++ [(n, rs ++ [x])] } := by
  unfold eraW stepP
  have e1 : (x.1.map nm ++ [x.2.1, nm x.2.2]).take 3 = x.1.map nm := by rw [List.take_append_of_le_length (by simp; omega), List.take_of_length_le (by simp; omega)]
  have e2 : (x.1.map nm ++ [x.2.1, nm x.2.2]).drop 3 = [x.2.1, nm x.2.2] := by rw [List.drop_append_of_le_length (by simp; omega), List.drop_of_length_le (by simp; omega)]; rfl
  have e3 : ¬ (S ++ [(n, rs)] = []) := by simp
  simp only [if_neg (show ¬ wEra = wSet by decide), if_neg (show ¬ wEra = wRule by decide), if_neg (show ¬ wEra = wZone by decide), if_true, hc, if_neg e3, e1, e2, mapM_nm hn, hu, if_pos h3, onto_snoc]
theorem read_rules {nm : Int → Bt} {pn : Bt → Option Int} {S : List (Bt × List (List Int × Bt))} {n : Bt} {Z : List (Bt × List (List Int × Bt × Int))} {L : List (Bt × Bt)} : ∀ (rs2 rs : List (List Int × Bt)), (∀ r ∈ rs2, r.1.length = 8 ∧ (∀ n ∈ r.1, pn (nm n) = some n) ∧ r.2 ≠ [45]) →
    readP pn ⟨S ++ [(n, rs)], Z, L⟩ (rs2.map (ruleW nm)) = some ⟨S ++ [(n, rs ++ rs2)], Z, L⟩
  | [], rs, _ => by rw [List.append_nil]; rfl
  | r :: t, rs, h => by
    obtain ⟨h1, h2, h3⟩ := h r (by simp)
    rw [List.map_cons]
    unfold readP
    rw [step_rule (S := S) (n := n) (rs := rs) rfl h1 h2 h3]
    show readP pn ⟨S ++ [(n, rs ++ [r])], Z, L⟩ (t.map (ruleW nm)) = _
    rw [read_rules t _ (fun r hr => h r (List.mem_cons_of_mem _ hr)), List.append_assoc]
    rfl
theorem read_eras {nm : Int → Bt} {pn : Bt → Option Int} {S : List (Bt × List (List Int × Bt))} {n : Bt} {Z : List (Bt × List (List Int × Bt × Int))} {L : List (Bt × Bt)} : ∀ (rs2 rs : List (List Int × Bt × Int)), (∀ x ∈ rs2, x.1.length = 3 ∧ (∀ n ∈ x.1, pn (nm n) = some n) ∧ pn (nm x.2.2) = some x.2.2) →
    readP pn ⟨S, Z ++ [(n, rs)], L⟩ (rs2.map (eraW nm)) = some ⟨S, Z ++ [(n, rs ++ rs2)], L⟩
  | [], rs, _ => by rw [List.append_nil]; rfl
  | r :: t, rs, h => by
    obtain ⟨h1, h2, h3⟩ := h r (by simp)
    rw [List.map_cons]
    unfold readP
    rw [step_era (S := Z) (n := n) (rs := rs) rfl h1 h2 h3]
    show readP pn ⟨S, Z ++ [(n, rs ++ [r])], L⟩ (t.map (eraW nm)) = _
    rw [read_eras t _ (fun r hr => h r (List.mem_cons_of_mem _ hr)), List.append_assoc]
    rfl
theorem read_sets {nm : Int → Bt} {pn : Bt → Option Int} {Z : List (Bt × List (List Int × Bt × Int))} {L : List (Bt × Bt)} : ∀ (ss S : List (Bt × List (List Int × Bt))), (∀ s ∈ ss, ∀ r ∈ s.2, r.1.length = 8 ∧ (∀ n ∈ r.1, pn (nm n) = some n) ∧ r.2 ≠ [45]) →
    readP pn ⟨S, Z, L⟩ (ss.flatMap (setW nm)) = some ⟨S ++ ss, Z, L⟩
  | [], S, _ => by rw [List.append_nil]; rfl
  | s :: t, S, h => by
    rw [List.flatMap_cons, readP_app]
    have e : readP pn ⟨S, Z, L⟩ (setW nm s) = some ⟨S ++ [s], Z, L⟩ := by
      unfold setW readP
      have e1 : stepP pn ⟨S, Z, L⟩ [wSet, s.1] = some ⟨S ++ [(s.1, [])], Z, L⟩ := by unfold stepP; simp only [if_true]
      rw [e1]
      show readP pn ⟨S ++ [(s.1, [])], Z, L⟩ (s.2.map (ruleW nm)) = _
      rw [read_rules s.2 [] (h s (by simp)), List.nil_append]
    rw [e]
    show readP pn ⟨S ++ [s], Z, L⟩ (t.flatMap (setW nm)) = _
    rw [read_sets t _ (fun s hs => h s (List.mem_cons_of_mem _ hs)), List.append_assoc]
    rfl
theorem read_zones {nm : Int → Bt} {pn : Bt → Option Int} {S : List (Bt × List (List Int × Bt))} {L : List (Bt × Bt)} : ∀ (zs Z : List (Bt × List (List Int × Bt × Int))), (∀ z ∈ zs, ∀ x ∈ z.2, x.1.length = 3 ∧ (∀ n ∈ x.1, pn (nm n) = some n) ∧ pn (nm x.2.2) = some x.2.2) →
    readP pn ⟨S, Z, L⟩ (zs.flatMap (zoneW nm)) = some ⟨S, Z ++ zs, L⟩
  | [], Z, _ => by rw [List.append_nil]; rfl
  | s :: t, Z, h => by
    rw [List.flatMap_cons, readP_app]
    have e : readP pn ⟨S, Z, L⟩ (zoneW nm s) = some ⟨S, Z ++ [s], L⟩ := by
      unfold zoneW readP
      have e1 : stepP pn ⟨S, Z, L⟩ [wZone, s.1] = some ⟨S, Z ++ [(s.1, [])], L⟩ := by unfold stepP; simp only [if_neg (show ¬ wZone = wSet by decide), if_neg (show ¬ wZone = wRule by decide), if_true]
      rw [e1]
      show readP pn ⟨S, Z ++ [(s.1, [])], L⟩ (s.2.map (eraW nm)) = _
      rw [read_eras s.2 [] (h s (by simp)), List.nil_append]
    rw [e]
    show readP pn ⟨S, Z ++ [s], L⟩ (t.flatMap (zoneW nm)) = _
    rw [read_zones t _ (fun s hs => h s (List.mem_cons_of_mem _ hs)), List.append_assoc]
    rfl
theorem read_links {pn : Bt → Option Int} {S : List (Bt × List (List Int × Bt))} {Z : List (Bt × List (List Int × Bt × Int))} : ∀ (ls L : List (Bt × Bt)), readP pn ⟨S, Z, L⟩ (ls.map linkW) = some ⟨S, Z, L ++ ls⟩
  | [], L => by rw [List.append_nil]; rfl
  | l :: t, L => by
    rw [List.map_cons]
    unfold readP
    have e1 : stepP pn ⟨S, Z, L⟩ (linkW l) = some ⟨S, Z, L ++ [(l.1, l.2)]⟩ := by
      unfold linkW stepP
      simp only [if_neg (show ¬ wLink = wSet by decide), if_neg (show ¬ wLink = wRule by decide), if_neg (show ¬ wLink = wZone by decide), if_neg (show ¬ wLink = wEra by decide), if_true]
    rw [e1]
    show readP pn ⟨S, Z, L ++ [(l.1, l.2)]⟩ (t.map linkW) = _
    rw [read_links t, List.append_assoc]
    rfl
/-- what is shown is read as it was. -/
theorem read_shown {nm : Int → Bt} {pn : Bt → Option Int} {c : Cn} (h : CnOk nm pn c) : readP pn ⟨[], [], []⟩ (linesC nm c) = some c := by
  unfold linesC
  rw [readP_app, read_sets c.ss [] h.rules]
  show readP pn ⟨[] ++ c.ss, [], []⟩ _ = _
  rw [readP_app, read_zones c.zs [] h.eras]
  show readP pn ⟨[] ++ c.ss, [] ++ c.zs, []⟩ _ = _
  rw [read_links]
  rfl
end Gno
end
/-! Plain: the reference's reader; both readers answer alike. -/
section
set_option linter.unusedVariables false
set_option linter.unusedSimpArgs false
namespace Gno
/-- the reference's reader: one line; what is not there is empty. -/
def stepR (sd : Bt → Int) (c : Cn) (ws : List Bt) : Cn :=
  let w := fun i => ws.getD i []
  if w 0 = wSet then { c with ss := c.ss ++ [(w 1, [])] }
  else if w 0 = wRule then { c with ss := ontoLast c.ss ([sd (w 1), sd (w 2), sd (w 3), sd (w 4), sd (w 5), sd (w 6), sd (w 7), sd (w 8)], wLet (w 9)) }
  else if w 0 = wZone then { c with zs := c.zs ++ [(w 1, [])] }
  else if w 0 = wEra then { c with zs := ontoLast c.zs ([sd (w 1), sd (w 2), sd (w 3)], w 4, sd (w 5)) }
  else if w 0 = wLink then { c with ls := c.ls ++ [(w 1, w 2)] }
  else c
def readR (sd : Bt → Int) (c : Cn) (ls : List (List Bt)) : Cn := ls.foldl (stepR sd) c
theorem readR_app (sd : Bt → Int) (a b : List (List Bt)) (c : Cn) : readR sd c (a ++ b) = readR sd (readR sd c a) b := by unfold readR; rw [List.foldl_append]
theorem readR_cons (sd : Bt → Int) (a : List Bt) (b : List (List Bt)) (c : Cn) : readR sd c (a :: b) = readR sd (stepR sd c a) b := rfl
structure CnOkR (nm : Int → Bt) (sd : Bt → Int) (c : Cn) : Prop where
  rules : ∀ s ∈ c.ss, ∀ r ∈ s.2, r.1.length = 8 ∧ (∀ n ∈ r.1, sd (nm n) = n) ∧ r.2 ≠ [45]
  eras : ∀ z ∈ c.zs, ∀ x ∈ z.2, x.1.length = 3 ∧ (∀ n ∈ x.1, sd (nm n) = n) ∧ sd (nm x.2.2) = x.2.2
theorem list3 {α : Type} {l : List α} (h : l.length = 3) : ∃ a b c, l = [a, b, c] := by
  match l, h with
  | [a, b, c], _ => exact ⟨a, b, c, rfl⟩
theorem list8 {α : Type} {l : List α} (h : l.length = 8) : ∃ a b c d e f g i, l = [a, b, c, d, e, f, g, i] := by
  match l, h with
  | [a, b, c, d, e, f, g, i], _ => exact ⟨a, b, c, d, e, f, g, i, rfl⟩
theorem stepR_rule {nm : Int → Bt} {sd : Bt → Int} {c : Cn} {S : List (Bt × List (List Int × Bt))} {n : Bt} {rs : List (List Int × Bt)} {r : List Int × Bt} (hc : c.ss = S ++ [(n, rs)]) (h8 : r.1.length = 8) (hn : ∀ n ∈ r.1, sd (nm n) = n) (hl : r.2 ≠ [45]) :
    stepR sd c (ruleW nm r) = { c with ss := S ++ [(n, rs ++ [r])] } := by
  obtain ⟨l, b⟩ := r
  obtain ⟨a1, a2, a3, a4, a5, a6, a7, a8, rfl⟩ := list8 h8
  unfold ruleW stepR
  simp only [List.map_cons, List.map_nil, List.cons_append, List.nil_append, List.getD_cons_zero, List.getD_cons_succ, if_neg (show ¬ wRule = wSet by decide), if_true, hc, onto_snoc, wLet_letW hl]
  rw [hn a1 (by simp), hn a2 (by simp), hn a3 (by simp), hn a4 (by simp), hn a5 (by simp), hn a6 (by simp), hn a7 (by simp), hn a8 (by simp)]
theorem stepR_era {nm : Int → Bt} {sd : Bt → Int} {c : Cn} {S : List (Bt × List (List Int × Bt × Int))} {n : Bt} {rs : List (List Int × Bt × Int)} {x : List Int × Bt × Int} (hc : c.zs = S ++ [(n, rs)]) (h3 : x.1.length = 3) (hn : ∀ n ∈ x.1, sd (nm n) = n) (hu : sd (nm x.2.2) = x.2.2) :
    stepR sd c (eraW nm x) = { c with zs := S ++ [(n, rs ++ [x])] } := by
  obtain ⟨l, f, u⟩ := x
  obtain ⟨a1, a2, a3, rfl⟩ := list3 h3
  unfold eraW stepR
  simp only at hu
  simp only [List.map_cons, List.map_nil, List.cons_append, List.nil_append, List.getD_cons_zero, List.getD_cons_succ, if_neg (show ¬ wEra = wSet by decide), if_neg (show ¬ wEra = wRule by decide), if_neg (show ¬ wEra = wZone by decide), if_true, hc, onto_snoc, hu]
  rw [hn a1 (by simp), hn a2 (by simp), hn a3 (by simp)]
theorem readR_rules {nm : Int → Bt} {sd : Bt → Int} {S : List (Bt × List (List Int × Bt))} {n : Bt} {Z : List (Bt × List (List Int × Bt × Int))} {L : List (Bt × Bt)} : ∀ (rs2 rs : List (List Int × Bt)), (∀ r ∈ rs2, r.1.length = 8 ∧ (∀ n ∈ r.1, sd (nm n) = n) ∧ r.2 ≠ [45]) →
    readR sd ⟨S ++ [(n, rs)], Z, L⟩ (rs2.map (ruleW nm)) = ⟨S ++ [(n, rs ++ rs2)], Z, L⟩
  | [], rs, _ => by rw [List.append_nil]; rfl
  | r :: t, rs, h => by
    obtain ⟨h1, h2, h3⟩ := h r (by simp)
    rw [List.map_cons, readR_cons, stepR_rule (S := S) (n := n) (rs := rs) rfl h1 h2 h3]
    show readR sd ⟨S ++ [(n, rs ++ [r])], Z, L⟩ (t.map (ruleW nm)) = _
    rw [readR_rules t _ (fun r hr => h r (List.mem_cons_of_mem _ hr)), List.append_assoc]
    rfl
theorem readR_eras {nm : Int → Bt} {sd : Bt → Int} {S : List (Bt × List (List Int × Bt))} {n : Bt} {Z : List (Bt × List (List Int × Bt × Int))} {L : List (Bt × Bt)} : ∀ (rs2 rs : List (List Int × Bt × Int)), (∀ x ∈ rs2, x.1.length = 3 ∧ (∀ n ∈ x.1, sd (nm n) = n) ∧ sd (nm x.2.2) = x.2.2) →
    readR sd ⟨S, Z ++ [(n, rs)], L⟩ (rs2.map (eraW nm)) = ⟨S, Z ++ [(n, rs ++ rs2)], L⟩
  | [], rs, _ => by rw [List.append_nil]; rfl
  | r :: t, rs, h => by
    obtain ⟨h1, h2, h3⟩ := h r (by simp)
    rw [List.map_cons, readR_cons, stepR_era (S := Z) (n := n) (rs := rs) rfl h1 h2 h3]
    show readR sd ⟨S, Z ++ [(n, rs ++ [r])], L⟩ (t.map (eraW nm)) = _
    rw [readR_eras t _ (fun r hr => h r (List.mem_cons_of_mem _ hr)), List.append_assoc]
    rfl
theorem readR_sets {nm : Int → Bt} {sd : Bt → Int} {Z : List (Bt × List (List Int × Bt × Int))} {L : List (Bt × Bt)} : ∀ (ss S : List (Bt × List (List Int × Bt))), (∀ s ∈ ss, ∀ r ∈ s.2, r.1.length = 8 ∧ (∀ n ∈ r.1, sd (nm n) = n) ∧ r.2 ≠ [45]) →
    readR sd ⟨S, Z, L⟩ (ss.flatMap (setW nm)) = ⟨S ++ ss, Z, L⟩
  | [], S, _ => by rw [List.append_nil]; rfl
  | s :: t, S, h => by
    rw [List.flatMap_cons, readR_app]
    have e : readR sd ⟨S, Z, L⟩ (setW nm s) = ⟨S ++ [s], Z, L⟩ := by
      unfold setW
      have e1 : stepR sd ⟨S, Z, L⟩ [wSet, s.1] = ⟨S ++ [(s.1, [])], Z, L⟩ := by unfold stepR; simp only [List.getD_cons_zero, List.getD_cons_succ, if_true]
      rw [readR_cons, e1, readR_rules s.2 [] (h s (by simp)), List.nil_append]
    rw [e, readR_sets t _ (fun s hs => h s (List.mem_cons_of_mem _ hs)), List.append_assoc]
    rfl
theorem readR_zones {nm : Int → Bt} {sd : Bt → Int} {S : List (Bt × List (List Int × Bt))} {L : List (Bt × Bt)} : ∀ (zs Z : List (Bt × List (List Int × Bt × Int))), (∀ z ∈ zs, ∀ x ∈ z.2, x.1.length = 3 ∧ (∀ n ∈ x.1, sd (nm n) = n) ∧ sd (nm x.2.2) = x.2.2) →
    readR sd ⟨S, Z, L⟩ (zs.flatMap (zoneW nm)) = ⟨S, Z ++ zs, L⟩
  | [], Z, _ => by rw [List.append_nil]; rfl
  | s :: t, Z, h => by
    rw [List.flatMap_cons, readR_app]
    have e : readR sd ⟨S, Z, L⟩ (zoneW nm s) = ⟨S, Z ++ [s], L⟩ := by
      unfold zoneW
      have e1 : stepR sd ⟨S, Z, L⟩ [wZone, s.1] = ⟨S, Z ++ [(s.1, [])], L⟩ := by unfold stepR; simp only [List.getD_cons_zero, List.getD_cons_succ, if_neg (show ¬ wZone = wSet by decide), if_neg (show ¬ wZone = wRule by decide), if_true]
      rw [readR_cons, e1, readR_eras s.2 [] (h s (by simp)), List.nil_append]
    rw [e, readR_zones t _ (fun s hs => h s (List.mem_cons_of_mem _ hs)), List.append_assoc]
    rfl
theorem readR_links {sd : Bt → Int} {S : List (Bt × List (List Int × Bt))} {Z : List (Bt × List (List Int × Bt × Int))} : ∀ (ls L : List (Bt × Bt)), readR sd ⟨S, Z, L⟩ (ls.map linkW) = ⟨S, Z, L ++ ls⟩
  | [], L => by rw [List.append_nil]; rfl
  | l :: t, L => by
    rw [List.map_cons, readR_cons]
    have e1 : stepR sd ⟨S, Z, L⟩ (linkW l) = ⟨S, Z, L ++ [(l.1, l.2)]⟩ := by
      unfold linkW stepR
      simp only [List.getD_cons_zero, List.getD_cons_succ, if_neg (show ¬ wLink = wSet by decide), if_neg (show ¬ wLink = wRule by decide), if_neg (show ¬ wLink = wZone by decide), if_neg (show ¬ wLink = wEra by decide), if_true]
    rw [e1, readR_links t, List.append_assoc]
    rfl
theorem readR_shown {nm : Int → Bt} {sd : Bt → Int} {c : Cn} (h : CnOkR nm sd c) : readR sd ⟨[], [], []⟩ (linesC nm c) = c := by
  unfold linesC
  rw [readR_app, readR_sets c.ss [] h.rules, readR_app, readR_zones c.zs [] h.eras, readR_links]
  rfl
/-! what each reader answers -/
/-- the program's lines of a text: what stands behind the last end counts unless it is empty; the reference's: it counts not. -/
def linesP (s : Bt) : List (List Bt) := (if (splitB 10 s).getLast? = some [] then (splitB 10 s).dropLast else splitB 10 s).map (splitB 32)
def linesR (s : Bt) : List (List Bt) := (splitB 10 s).dropLast.map (splitB 32)
/-- the text of data. -/
def showC (nm : Int → Bt) (c : Cn) : Bt := textW (linesC nm c)
structure Clean (ls : List (List Bt)) : Prop where
  ne : ∀ l ∈ ls, l ≠ []
  blank : ∀ l ∈ ls, ∀ w ∈ l, (32 : UInt8) ∉ w
  turn : ∀ l ∈ ls, ∀ w ∈ l, (10 : UInt8) ∉ w
theorem map_split {ls : List (List Bt)} (h : Clean ls) : (ls.map joinW).map (splitB 32) = ls := by
  rw [List.map_map]
  conv => rhs; rw [← List.map_id ls]
  exact List.map_congr_left fun l hl => split_join (h.ne l hl) (h.blank l hl)
theorem lines_shown {ls : List (List Bt)} (h : Clean ls) : linesP (textW ls) = ls ∧ linesR (textW ls) = ls := by
  unfold linesP linesR
  rw [split_text h.turn]
  rw [if_pos (by simp), List.dropLast_concat]
  exact ⟨map_split h, map_split h⟩
section
variable (nm : Int → Bt) (pn : Bt → Option Int) (sd : Bt → Int) (ok : Cn → Prop) [DecidablePred ok]
def ansP (s : Bt) : Option Cn := match readP pn ⟨[], [], []⟩ (linesP s) with
  | some c => if ok c ∧ showC nm c = s then some c else none
  | none => none
def ansR (s : Bt) : Option Cn := if ok (readR sd ⟨[], [], []⟩ (linesR s)) ∧ showC nm (readR sd ⟨[], [], []⟩ (linesR s)) = s then some (readR sd ⟨[], [], []⟩ (linesR s)) else none
variable {nm pn sd ok}
theorem ansP_shown (hp : ∀ c, ok c → CnOk nm pn c) (hc : ∀ c, ok c → Clean (linesC nm c)) {c : Cn} (h : ok c) : ansP nm pn ok (showC nm c) = some c := by
  unfold ansP showC
  rw [(lines_shown (hc c h)).1, read_shown (hp c h)]
  show (if ok c ∧ textW (linesC nm c) = textW (linesC nm c) then some c else none) = some c
  rw [if_pos ⟨h, rfl⟩]
theorem ansR_shown (hr : ∀ c, ok c → CnOkR nm sd c) (hc : ∀ c, ok c → Clean (linesC nm c)) {c : Cn} (h : ok c) : ansR nm sd ok (showC nm c) = some c := by
  unfold ansR showC
  rw [(lines_shown (hc c h)).2, readR_shown (hr c h), if_pos ⟨h, rfl⟩]
theorem ansP_some {s : Bt} {c : Cn} (h : ansP nm pn ok s = some c) : ok c ∧ showC nm c = s := by
  unfold ansP at h
  split at h
  · split at h
    · rename_i q; obtain rfl := Option.some.inj h; exact q
    · cases h
  · cases h
theorem ansR_some {s : Bt} {c : Cn} (h : ansR nm sd ok s = some c) : ok c ∧ showC nm c = s := by
  unfold ansR at h
  split at h
  · rename_i q; obtain rfl := Option.some.inj h; exact q
  · cases h
/-- both readers answer alike. -/
theorem ans_same (hp : ∀ c, ok c → CnOk nm pn c) (hr : ∀ c, ok c → CnOkR nm sd c) (hc : ∀ c, ok c → Clean (linesC nm c)) (s : Bt) : ansP nm pn ok s = ansR nm sd ok s := by
  cases h : ansP nm pn ok s with
  | some c =>
    obtain ⟨h1, rfl⟩ := ansP_some h
    rw [ansR_shown hr hc h1]
  | none =>
    cases h2 : ansR nm sd ok s with
    | none => rfl
    | some c =>
      obtain ⟨h1, rfl⟩ := ansR_some h2
      rw [ansP_shown hp hc h1] at h
      cases h
end
end Gno
end
/-! Plain: numbers as words: what is shown is read as it was, by both readers. -/
section
set_option linter.unusedVariables false
set_option linter.unusedSimpArgs false
namespace Gno
open Go
theorem dig_ne {u : Nat} {c : UInt8} (hc : c.toNat < 48 ∨ 57 < c.toNat) : c ∉ Lib.decDigits u := by
  induction u using Nat.strongRecOn with
  | _ u ih =>
    rw [Lib.decDigits]
    split
    · rename_i h
      intro hm
      obtain rfl := List.mem_singleton.1 hm
      have : (UInt8.ofNat (48 + u)).toNat = 48 + u := by simp; omega
      omega
    · intro hm
      rcases List.mem_append.1 hm with hm | hm
      · exact ih (u / 10) (by omega) hm
      · obtain rfl := List.mem_singleton.1 hm
        have : (UInt8.ofNat (48 + u % 10)).toNat = 48 + u % 10 := by simp; omega
        omega
theorem dig_cons (u : Nat) : ∃ c r, Lib.decDigits u = c :: r ∧ 48 ≤ c.toNat ∧ c.toNat ≤ 57 := by
  induction u using Nat.strongRecOn with
  | _ u ih =>
    rw [Lib.decDigits]
    split
    · exact ⟨_, [], rfl, by simp; omega, by simp; omega⟩
    · obtain ⟨c, r, h1, h2, h3⟩ := ih (u / 10) (by omega)
      exact ⟨c, r ++ _, by rw [h1]; rfl, h2, h3⟩
theorem pu_dig : ∀ (u : Nat), u < 1000000000000000000 → ∀ r, Lib.parseUint10 0 (Lib.decDigits u ++ r) = Lib.parseUint10 u r := by
  intro u
  induction u using Nat.strongRecOn with
  | _ u ih =>
    intro hu r
    rw [Lib.decDigits]
    split
    · rename_i h
      have e : (UInt8.ofNat (48 + u)).toNat = 48 + u := by simp; omega
      show Lib.parseUint10 0 (UInt8.ofNat (48 + u) :: r) = _
      rw [Lib.parseUint10, e, if_pos (by omega), if_neg (by omega), if_neg (by omega)]
      congr 1; omega
    · rename_i h
      have e : (UInt8.ofNat (48 + u % 10)).toNat = 48 + u % 10 := by simp; omega
      rw [List.append_assoc, ih (u / 10) (by omega) (by omega)]
      show Lib.parseUint10 (u / 10) (UInt8.ofNat (48 + u % 10) :: r) = _
      rw [Lib.parseUint10, e, if_pos (by omega), if_neg (by omega), if_neg (by omega)]
      congr 1; omega
theorem mag_dig {u : Nat} (hu : u < 1000000000000000000) : Lib.parseMag (Lib.decDigits u) = .ok u := by
  obtain ⟨c, r, h, _⟩ := dig_cons u
  unfold Lib.parseMag
  rw [if_neg (by rw [h]; simp)]
  have := pu_dig u hu []
  rw [List.append_nil] at this
  rw [this]
  rfl
/-- a word read as the program reads it. -/
def pnI (w : Bt) : Option Int := match Lib.atoiAll w with
  | .ok n => if Lib.itoa n = w then some n else none
  | _ => none
theorem atoi_itoa {n : Int} (h1 : -1000000000000000000 < n) (h2 : n < 1000000000000000000) : Lib.atoiAll (Lib.itoa n) = .ok n := by
  by_cases hn : n < 0
  · obtain ⟨u, rfl⟩ : ∃ u : Nat, n = -(u : Int) := ⟨n.natAbs, by omega⟩
    rw [Lib.itoa_neg u (by omega)]
    unfold Lib.atoiAll
    simp only [show ((45 : UInt8).toNat = 43 ∨ (45 : UInt8).toNat = 45) = True by simp, if_true, mag_dig (show u < 1000000000000000000 by omega)]
    rw [if_neg (by simp), if_neg (by simp; omega)]
    simp
  · obtain ⟨u, rfl⟩ : ∃ u : Nat, n = (u : Int) := ⟨n.toNat, by omega⟩
    rw [Lib.itoa_nonneg]
    obtain ⟨c, r, h, q1, q2⟩ := dig_cons u
    have hm := mag_dig (show u < 1000000000000000000 by omega)
    rw [h] at hm ⊢
    unfold Lib.atoiAll
    have e1 : (if c.toNat = 43 ∨ c.toNat = 45 then r else c :: r) = c :: r := if_neg (by omega)
    have e2 : ¬ c.toNat = 45 := by omega
    simp only [e1, hm]
    rw [if_neg (by omega), if_neg (fun h => e2 h.1), if_neg e2]
theorem pn_itoa {n : Int} (h1 : -1000000000000000000 < n) (h2 : n < 1000000000000000000) : pnI (Lib.itoa n) = some n := by
  unfold pnI
  rw [atoi_itoa h1 h2]
  simp
/-- a word read as the reference reads it. -/
def sdL (acc : Int) : Bt → Int
  | [] => acc
  | c :: r => if c = 45 then sdL acc r else sdL (10 * acc + ((c - 48).toNat : Int)) r
def sdI (w : Bt) : Int := if w.length < 1 ∨ 12 < w.length then 0 else if w.head? = some 45 then -(sdL 0 w) else sdL 0 w
theorem u8_ne {k : Nat} (h : 48 ≤ k) (h2 : k ≤ 57) : UInt8.ofNat k ≠ 45 := fun e => by
  have := congrArg UInt8.toNat e
  simp at this
  omega
theorem u8_dig {k : Nat} (h : k < 10) : ((UInt8.ofNat (48 + k) - 48).toNat : Int) = k := by
  have : (UInt8.ofNat (48 + k) - 48).toNat = k := by
    rw [UInt8.toNat_sub]
    simp
    omega
  rw [this]
theorem sd_dig : ∀ (u : Nat) (r : Bt), sdL 0 (Lib.decDigits u ++ r) = sdL (u : Int) r := by
  intro u
  induction u using Nat.strongRecOn with
  | _ u ih =>
    intro r
    rw [Lib.decDigits]
    split
    · rename_i h
      show sdL 0 (UInt8.ofNat (48 + u) :: r) = _
      rw [sdL, if_neg (u8_ne (by omega) (by omega)), u8_dig h]
      congr 1; omega
    · rename_i h
      rw [List.append_assoc, ih (u / 10) (by omega)]
      show sdL ((u / 10 : Nat) : Int) (UInt8.ofNat (48 + u % 10) :: r) = _
      rw [sdL, if_neg (u8_ne (by omega) (by omega)), u8_dig (by omega)]
      congr 1; omega
theorem nDig_le {u : Nat} (h : u < 100000000000) : Lib.nDigits u ≤ 11 := by
  rcases Nat.lt_or_ge 11 (Lib.nDigits u) with hk | hk
  · exfalso
    have h2 : 10 ^ (Lib.nDigits u - 1) ≤ u ∨ u = 0 := by
      clear hk
      induction u using Nat.strongRecOn with
      | _ u ih =>
        by_cases h9 : u < 10
        · rw [Lib.nDigits_small h9]; by_cases h0 : u = 0
          · exact .inr h0
          · exact .inl (by simp; omega)
        · rw [Lib.nDigits_big h9]
          rcases ih (u / 10) (by omega) (by omega) with q | q
          · have := Lib.nDigits_pos (u / 10)
            refine .inl ?_
            rw [show Lib.nDigits (u / 10) + 1 - 1 = Lib.nDigits (u / 10) - 1 + 1 by omega, Nat.pow_succ]
            omega
          · omega
    rcases h2 with h2 | h2
    · have : 10 ^ 11 ≤ 10 ^ (Lib.nDigits u - 1) := Nat.pow_le_pow_right (by decide) (by omega)
      omega
    · rw [h2, Lib.nDigits_small (by omega)] at hk; omega
  · exact hk
theorem sd_itoa {n : Int} (h1 : -100000000000 < n) (h2 : n < 100000000000) : sdI (Lib.itoa n) = n := by
  by_cases hn : n < 0
  · obtain ⟨u, rfl⟩ : ∃ u : Nat, n = -(u : Int) := ⟨n.natAbs, by omega⟩
    have hl := nDig_le (show u < 100000000000 by omega)
    rw [Lib.itoa_neg u (by omega)]
    unfold sdI
    rw [if_neg (by simp [Lib.decDigits_length]; omega), if_pos (show (45 :: Lib.decDigits u).head? = some 45 from rfl), sdL, if_pos rfl]
    have := sd_dig u []
    rw [List.append_nil] at this
    rw [this]; rfl
  · obtain ⟨u, rfl⟩ : ∃ u : Nat, n = (u : Int) := ⟨n.toNat, by omega⟩
    have hl := nDig_le (show u < 100000000000 by omega)
    rw [Lib.itoa_nonneg]
    obtain ⟨c, r, h, q1, q2⟩ := dig_cons u
    have hp := Lib.nDigits_pos u
    unfold sdI
    rw [if_neg (by rw [Lib.decDigits_length]; omega), if_neg (by rw [h]; simp; intro e; rw [e] at q1; exact absurd q1 (by decide))]
    have := sd_dig u []
    rw [List.append_nil] at this
    rw [this]; rfl
theorem itoa_no {n : Int} {c : UInt8} (hc : c.toNat < 45) : c ∉ Lib.itoa n := by
  unfold Lib.itoa
  split
  · intro hm
    rcases List.mem_cons.1 hm with rfl | hm
    · exact absurd hc (by decide)
    · exact dig_ne (.inl (by omega)) hm
  · exact dig_ne (.inl (by omega))
end Gno
end
/-! Plain: the steps of the splitters: strings.Lines with its ends trimmed; a split at a byte, place for place. -/
section
set_option linter.unusedVariables false
set_option linter.unusedSimpArgs false
namespace Gno
/-- a text of bytes. -/
def Bs (l : Bt) : ByteArray := ⟨l.toArray⟩
theorem Bs_list (s : ByteArray) : Bs s.data.toList = s := rfl
theorem list_Bs (l : Bt) : (Bs l).data.toList = l := by unfold Bs; simp
/-- the lines of a text, their ends off. -/
def linesT (s : Bt) : List Bt := if (splitB 10 s).getLast? = some [] then (splitB 10 s).dropLast else splitB 10 s
theorem linesP_is (s : Bt) : linesP s = (linesT s).map (splitB 32) := rfl
theorem linesT_cons {a : Bt} (b : Bt) (h : (10 : UInt8) ∉ a) : linesT (a ++ 10 :: b) = a :: linesT b := by
  unfold linesT
  rw [splitB_app b h]
  obtain ⟨x, r, hx⟩ : ∃ x r, splitB 10 b = x :: r := by
    cases e : splitB 10 b with
    | nil => exact absurd e (splitB_ne 10 b)
    | cons x r => exact ⟨x, r, rfl⟩
  rw [hx, List.getLast?_cons_cons, List.dropLast_cons_cons]
  split <;> rfl
theorem linesT_last {s : Bt} (hs : s ≠ []) (h : (10 : UInt8) ∉ s) : linesT s = [s] := by
  unfold linesT
  rw [splitB_none h, if_neg (by simp [hs])]
/-- a split, place for place: what has come, and what is split still. -/
theorem split_step {c : UInt8} {s : Bt} {f i : Nat} (hfi : f ≤ i) (hno : c ∉ (s.drop f).take (i - f)) (hc : s[i]? = some c) : splitB c (s.drop f) = (s.drop f).take (i - f) :: splitB c (s.drop (i + 1)) := by
  have hi := (List.getElem?_eq_some_iff.1 hc).1
  have e : s.drop f = (s.drop f).take (i - f) ++ c :: s.drop (i + 1) := by
    conv => lhs; rw [← List.take_append_drop (i - f) (s.drop f)]
    congr 1
    rw [List.drop_drop, show f + (i - f) = i by omega, List.drop_eq_getElem_cons hi]
    congr 1
    exact (List.getElem?_eq_some_iff.1 hc).2
  conv => lhs; rw [e]
  exact splitB_app _ hno
theorem split_more {c x : UInt8} {s : Bt} {f i : Nat} (hfi : f ≤ i) (hno : c ∉ (s.drop f).take (i - f)) (hx : s[i]? = some x) (hne : x ≠ c) : c ∉ (s.drop f).take (i + 1 - f) := by
  have hi := (List.getElem?_eq_some_iff.1 hx).1
  have e : (s.drop f).take (i + 1 - f) = (s.drop f).take (i - f) ++ [x] := by
    rw [show i + 1 - f = (i - f) + 1 by omega, List.take_add_one]
    congr 1
    rw [List.getElem?_drop, show f + (i - f) = i by omega, hx]
    rfl
  rw [e]
  intro hm
  rcases List.mem_append.1 hm with hm | hm
  · exact hno hm
  · exact hne (List.mem_singleton.1 hm).symm
/-- a line, word for word. -/
theorem join_flat (a : Bt) : ∀ l : List Bt, joinW (a :: l) = a ++ l.flatMap (fun w => 32 :: w)
  | [] => by simp [joinW]
  | b :: t => by
    show a ++ 32 :: joinW (b :: t) = _
    rw [join_flat b t, List.flatMap_cons]
    rfl
theorem line_flat (a : Bt) (l : List Bt) : lineW (a :: l) = a ++ (l.flatMap (fun w => 32 :: w) ++ [10]) := by unfold lineW; rw [join_flat, List.append_assoc]
theorem text_snoc (ls : List (List Bt)) (l : List Bt) : textW (ls ++ [l]) = textW ls ++ lineW l := by rw [textW_app]; unfold textW; simp
theorem flat_take {α β : Type} (g : α → List β) {l : List α} {k : Nat} {x : α} (h : l[k]? = some x) : (l.take (k + 1)).flatMap g = (l.take k).flatMap g ++ g x := by
  rw [List.take_add_one, h, List.flatMap_append]
  simp
theorem map_take' {α β : Type} (g : α → β) {l : List α} {k : Nat} {x : α} (h : l[k]? = some x) : (l.take (k + 1)).map g = (l.take k).map g ++ [g x] := by
  rw [List.take_add_one, h, List.map_append]
  rfl
/-- the lines shown when k sets are, and i rules of the next one; and so on. -/
def shownS (nm : Int → Bt) (c : Cn) (k : Nat) : List (List Bt) := (c.ss.take k).flatMap (setW nm)
def shownZ (nm : Int → Bt) (c : Cn) (k : Nat) : List (List Bt) := c.ss.flatMap (setW nm) ++ (c.zs.take k).flatMap (zoneW nm)
def shownL (nm : Int → Bt) (c : Cn) (k : Nat) : List (List Bt) := c.ss.flatMap (setW nm) ++ (c.zs.flatMap (zoneW nm) ++ (c.ls.take k).map linkW)
theorem shownS_next {nm : Int → Bt} {c : Cn} {k : Nat} {s : Bt × List (List Int × Bt)} (h : c.ss[k]? = some s) : shownS nm c (k + 1) = (shownS nm c k ++ [[wSet, s.1]]) ++ s.2.map (ruleW nm) := by
  unfold shownS
  rw [flat_take _ h, List.append_assoc]
  rfl
theorem shownS_end {nm : Int → Bt} {c : Cn} {k : Nat} (h : c.ss.length ≤ k) : shownS nm c k = shownZ nm c 0 := by
  unfold shownS shownZ
  rw [List.take_of_length_le h]
  simp
theorem shownZ_next {nm : Int → Bt} {c : Cn} {k : Nat} {z : Bt × List (List Int × Bt × Int)} (h : c.zs[k]? = some z) : shownZ nm c (k + 1) = (shownZ nm c k ++ [[wZone, z.1]]) ++ z.2.map (eraW nm) := by
  unfold shownZ
  rw [flat_take _ h]
  simp only [List.append_assoc]
  rfl
theorem shownZ_end {nm : Int → Bt} {c : Cn} {k : Nat} (h : c.zs.length ≤ k) : shownZ nm c k = shownL nm c 0 := by
  unfold shownZ shownL
  rw [List.take_of_length_le h]
  simp
theorem shownL_next {nm : Int → Bt} {c : Cn} {k : Nat} {l : Bt × Bt} (h : c.ls[k]? = some l) : shownL nm c (k + 1) = shownL nm c k ++ [linkW l] := by
  unfold shownL
  rw [map_take' _ h]
  simp only [List.append_assoc]
theorem shownL_end {nm : Int → Bt} {c : Cn} {k : Nat} (h : c.ls.length ≤ k) : shownL nm c k = linesC nm c := by
  unfold shownL linesC
  rw [List.take_of_length_le h]
theorem split_end {c : UInt8} {s : Bt} {f : Nat} (hno : c ∉ s.drop f) : splitB c (s.drop f) = [s.drop f] := splitB_none hno
end Gno
end
/-! Plain: offsets as text. -/
section
set_option linter.unusedVariables false
set_option linter.unusedSimpArgs false
namespace Gno
open Go
/-- two digits. -/
def twL (n : Nat) : List UInt8 := [UInt8.ofNat (48 + n / 10), UInt8.ofNat (48 + n % 10)]
def nuL (n : Nat) : List UInt8 := if n < 10 then [UInt8.ofNat (48 + n)] else twL n
def sgL (n : Int) : List UInt8 := if n < 0 then [45] else [43]
def aheadL (k : Int) : List UInt8 := if k < 3 then [] else [71, 77, 84]
def zeroL (k : Int) : List UInt8 := if k = 1 then [] else if k = 2 then [90] else [71, 77, 84]
def layL (k : Int) (h m : Nat) : List UInt8 := if k = 1 then twL h ++ twL m else if k = 3 then (if m = 0 then nuL h else nuL h ++ (58 :: twL m)) else twL h ++ (58 :: twL m)
def showL (k n : Int) : List UInt8 := if n = 0 ∧ k ≠ 1 then zeroL k else aheadL k ++ (sgL n ++ layL k (n.natAbs / 60 / 60) (n.natAbs / 60 % 60))
def halves (k : Int) (c : List UInt8 × List UInt8 × Bool) : List UInt8 × List UInt8 := if c.2.2 = false ∧ k = 1 ∧ c.1.length = 4 then (c.1.take 2, c.1.drop 2) else (c.1, c.2.1)
def atoi0 (l : List UInt8) : Int := (Lib.atoi l).getD 0
def secs (k : Int) (r : List UInt8) : Int := (atoi0 (halves k (Lib.cut r.tail [58])).1 * 60 + atoi0 (halves k (Lib.cut r.tail [58])).2) * 60
def parseR (k : Int) (r : List UInt8) : Int := if r.head? = some 45 then - secs k r else secs k r
def parseL (k : Int) (l : List UInt8) : Option Int :=
  if zeroL k ≠ [] ∧ l = zeroL k then some 0
  else if Lib.hasPrefix l (aheadL k) = false then none
  else if (Lib.trimPrefix l (aheadL k)).length < 2 ∨ 6 < (Lib.trimPrefix l (aheadL k)).length then none
  else some (parseR k (Lib.trimPrefix l (aheadL k)))
def kindB (k : Int) : Bool := decide (1 ≤ k ∧ k ≤ 4)
def offOk (n : Int) : Bool := decide (-57600 ≤ n ∧ n ≤ 57600 ∧ n % 60 = 0)
def oneOk (k : Int) (i : Nat) : Bool := parseL k (showL k (60 * (i : Int) - 57600)) == some (60 * (i : Int) - 57600) && decide ((showL k (60 * (i : Int) - 57600)).length ≤ 9)
def allOk (k : Int) : Nat → Bool
  | 0 => true
  | i + 1 => oneOk k i && allOk k i
theorem allOk_at {k : Int} : ∀ {n i : Nat}, allOk k n = true → i < n → oneOk k i = true
  | 0, i, _, h => by omega
  | n + 1, i, ha, h => by
    rw [allOk, Bool.and_eq_true] at ha
    by_cases e : i = n
    · rw [e]; exact ha.1
    · exact allOk_at ha.2 (by omega)
set_option maxRecDepth 1000000 in
theorem allOk_1 : allOk 1 1921 = true := by kernel_rfl
set_option maxRecDepth 1000000 in
theorem allOk_2 : allOk 2 1921 = true := by kernel_rfl
set_option maxRecDepth 1000000 in
theorem allOk_3 : allOk 3 1921 = true := by kernel_rfl
set_option maxRecDepth 1000000 in
theorem allOk_4 : allOk 4 1921 = true := by kernel_rfl
/-! texts -/
def B (l : List UInt8) : ByteArray := ⟨l.toArray⟩
theorem B_app (a b : List UInt8) : B a ++ B b = B (a ++ b) := ByteArray.ext (by simp [B])
theorem B_size (l : List UInt8) : (B l).size = l.length := by simp [B, ByteArray.size]
theorem B_toList (l : List UInt8) : (B l).data.toList = l := by simp [B]
theorem oneOk_at {k n : Int} (hk : kindB k = true) (hn : offOk n = true) : parseL k (showL k n) = some n ∧ (showL k n).length ≤ 9 := by
  simp only [kindB, offOk, decide_eq_true_eq] at hk hn
  have e : n = 60 * (((n + 57600) / 60).toNat : Int) - 57600 := by omega
  have hi : ((n + 57600) / 60).toNat < 1921 := by omega
  have h : oneOk k ((n + 57600) / 60).toNat = true := by
    have : k = 1 ∨ k = 2 ∨ k = 3 ∨ k = 4 := by omega
    rcases this with rfl | rfl | rfl | rfl
    · exact allOk_at allOk_1 hi
    · exact allOk_at allOk_2 hi
    · exact allOk_at allOk_3 hi
    · exact allOk_at allOk_4 hi
  unfold oneOk at h
  rw [Bool.and_eq_true, beq_iff_eq, decide_eq_true_eq, ← e] at h
  exact h
def showE (k n : Int) : Int := if kindB k = false then 8 else if offOk n = false then 3 else 0
def showT (k n : Int) : ByteArray := if showE k n = 0 then B (showL k n) else ⟨#[]⟩
def Tells (k : Int) (s : ByteArray) (n : Int) : Prop := showE k n = 0 ∧ showT k n = s
theorem showE_ok {k n : Int} (h : kindB k = true) (hn : offOk n = true) : showE k n = 0 ∧ showT k n = B (showL k n) := by
  have e : showE k n = 0 := by unfold showE; rw [if_neg (by simp [h]), if_neg (by simp [hn])]
  exact ⟨e, by unfold showT; rw [if_pos e]⟩
theorem showE_zero {k n : Int} (h : showE k n = 0) : kindB k = true ∧ offOk n = true := by
  unfold showE at h
  cases h1 : kindB k
  · rw [h1, if_pos rfl] at h; cases h
  · rw [h1, if_neg (by simp)] at h
    cases h2 : offOk n
    · rw [h2, if_pos rfl] at h; cases h
    · exact ⟨rfl, rfl⟩
theorem tells_parse {k : Int} {s : ByteArray} {n : Int} (h : Tells k s n) : parseL k s.data.toList = some n := by
  obtain ⟨h1, h2⟩ := showE_zero h.1
  rw [← h.2, (showE_ok h1 h2).2, B_toList]
  exact (oneOk_at h1 h2).1
theorem tells_uniq {k : Int} {s : ByteArray} {n m : Int} (h : Tells k s n) (h2 : Tells k s m) : n = m := by
  have := (tells_parse h).symm.trans (tells_parse h2)
  injection this
open Classical in
noncomputable def readN (k : Int) (s : ByteArray) : Int := if h : ∃ n, Tells k s n then choose h else 0
open Classical in
noncomputable def readE (k : Int) (s : ByteArray) : Int := if kindB k = false then 8 else if ∃ n, Tells k s n then 0 else 1
theorem read_yes {k : Int} {s : ByteArray} {n : Int} (h : Tells k s n) : readN k s = n ∧ readE k s = 0 := by
  have hx : ∃ n, Tells k s n := ⟨n, h⟩
  constructor
  · unfold readN; rw [dif_pos hx]; exact tells_uniq (Classical.choose_spec hx) h
  · unfold readE; rw [if_neg (by simp [(showE_zero h.1).1]), if_pos hx]
theorem read_no {k : Int} {s : ByteArray} (hk : kindB k = true) (h : ∀ n, ¬ Tells k s n) : readN k s = 0 ∧ readE k s = 1 := by
  have hx : ¬ ∃ n, Tells k s n := fun ⟨n, hn⟩ => h n hn
  constructor
  · unfold readN; rw [dif_neg hx]
  · unfold readE; rw [if_neg (by simp [hk]), if_neg hx]
end Gno
end
