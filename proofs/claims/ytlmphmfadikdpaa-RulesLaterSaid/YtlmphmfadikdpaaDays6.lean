/- The contracts of days, whatever is handed in; what must be in any case. -/
import Derived.Test.YtlmphmfadikdpaaDays5
set_option linter.unusedVariables false
namespace Gno
def daysN (y m d : Int) : Int := if isDate y m d = true then num y m d else 0
def daysE (y m d : Int) : Int := if isDate y m d = true then 0 else 3
def dateY (n : Int) : Int := if isDay n = true then yOf n else 0
def dateM (n : Int) : Int := if isDay n = true then mOf n else 0
def dateD (n : Int) : Int := if isDay n = true then dOf n else 0
def dateE (n : Int) : Int := if isDay n = true then 0 else 3
def weekN (n : Int) : Int := if isDay n = true then (n + 4) % 7 else 0
def leapB (y : Int) : Bool := isYear y && (y % 4 == 0)
def leapE (y : Int) : Int := if isYear y = true then 0 else 3
end Gno
namespace Go.Proofs.Ytlmphmfadikdpaa
open Go.RowKit Gno

theorem leap_any (y : Int) (w : World) :
    Calls Try.prog 15 #[.int .i64 y] w fun e w' => e = .returned (.tuple #[.bool (leapB y), .int .i64 (leapE y)]) ∧ w = w' := by
  cases h : isYear y
  · rw [show leapB y = false by simp [leapB, h], show leapE y = 3 by simp [leapE, h]]; exact leap_no y w h
  · rw [show leapB y = (y % 4 == 0) by simp [leapB, h], show leapE y = 0 by simp [leapE, h]]; exact leap_yes y w h
theorem days_any (y m d : Int) (w : World) :
    Calls Try.prog 16 #[.int .i64 y, .int .i64 m, .int .i64 d] w fun e w' => e = .returned (.tuple #[.int .i64 (daysN y m d), .int .i64 (daysE y m d)]) ∧ w = w' := by
  cases h : isDate y m d
  · rw [show daysN y m d = 0 by simp [daysN, h], show daysE y m d = 3 by simp [daysE, h]]; exact days_no y m d w h
  · rw [show daysN y m d = num y m d by simp [daysN, h], show daysE y m d = 0 by simp [daysE, h]]; exact days_yes y m d w h
theorem daysOf_any (y m d : Int) (w : World) :
    Calls Try.prog 19 #[.int .i64 y, .int .i64 m, .int .i64 d] w fun e w' => e = .returned (.tuple #[.int .i64 (daysN y m d), .int .i64 (daysE y m d)]) ∧ Below w.heap.size w w' := by
  cases h : isDate y m d
  · rw [show daysN y m d = 0 by simp [daysN, h], show daysE y m d = 3 by simp [daysE, h]]; exact daysOf_no y m d w h
  · rw [show daysN y m d = num y m d by simp [daysN, h], show daysE y m d = 0 by simp [daysE, h]]; exact daysOf_yes y m d w h
theorem date_any (n : Int) (w : World) :
    Calls Try.prog 17 #[.int .i64 n] w fun e w' => e = .returned (.tuple #[.int .i64 (dateY n), .int .i64 (dateM n), .int .i64 (dateD n), .int .i64 (dateE n)]) ∧ w = w' := by
  cases h : isDay n
  · rw [show dateY n = 0 by simp [dateY, h], show dateM n = 0 by simp [dateM, h], show dateD n = 0 by simp [dateD, h], show dateE n = 3 by simp [dateE, h]]; exact date_no n w h
  · rw [show dateY n = yOf n by simp [dateY, h], show dateM n = mOf n by simp [dateM, h], show dateD n = dOf n by simp [dateD, h], show dateE n = 0 by simp [dateE, h]]; exact date_yes n w h
theorem dateOf_any (n : Int) (w : World) :
    Calls Try.prog 20 #[.int .i64 n] w fun e w' => e = .returned (.tuple #[.int .i64 (dateY n), .int .i64 (dateM n), .int .i64 (dateD n), .int .i64 (dateE n)]) ∧ Below w.heap.size w w' := by
  cases h : isDay n
  · rw [show dateY n = 0 by simp [dateY, h], show dateM n = 0 by simp [dateM, h], show dateD n = 0 by simp [dateD, h], show dateE n = 3 by simp [dateE, h]]; exact dateOf_no n w h
  · rw [show dateY n = yOf n by simp [dateY, h], show dateM n = mOf n by simp [dateM, h], show dateD n = dOf n by simp [dateD, h], show dateE n = 0 by simp [dateE, h]]; exact dateOf_yes n w h
theorem week_any (n : Int) (w : World) :
    Calls Try.prog 18 #[.int .i64 n] w fun e w' => e = .returned (.tuple #[.int .i64 (weekN n), .int .i64 (dateE n)]) ∧ w = w' := by
  cases h : isDay n
  · rw [show weekN n = 0 by simp [weekN, h], show dateE n = 3 by simp [dateE, h]]; exact week_no n w h
  · rw [show weekN n = (n + 4) % 7 by simp [weekN, h], show dateE n = 0 by simp [dateE, h]]; exact week_yes n w h

theorem daysBegun_any (w : World) :
    Calls Try.prog 22 #[] w fun e w' => e = .returned (.bool true) ∧ w = w' := by
  have c1 : ∀ w, Calls Try.prog 15 #[.int .i64 2000] w fun e w' => e = .returned (.tuple #[.bool true, .int .i64 0]) ∧ w = w' := fun w => leap_any 2000 w
  have c2 : ∀ w, Calls Try.prog 16 #[.int .i64 2000, .int .i64 3, .int .i64 1] w fun e w' => e = .returned (.tuple #[.int .i64 11017, .int .i64 0]) ∧ w = w' := fun w => days_any 2000 3 1 w
  have c3 : ∀ w, Calls Try.prog 17 #[.int .i64 11017] w fun e w' => e = .returned (.tuple #[.int .i64 2000, .int .i64 3, .int .i64 1, .int .i64 0]) ∧ w = w' := fun w => date_any 11017 w
  have c4 : ∀ w, Calls Try.prog 18 #[.int .i64 11017] w fun e w' => e = .returned (.tuple #[.int .i64 3, .int .i64 0]) ∧ w = w' := fun w => week_any 11017 w
  have c5 : ∀ w, Calls Try.prog 16 #[.int .i64 2001, .int .i64 2, .int .i64 29] w fun e w' => e = .returned (.tuple #[.int .i64 0, .int .i64 3]) ∧ w = w' := fun w => days_any 2001 2 29 w
  have C1 := Lib.hid c1
  have C2 := Lib.hid c2
  have C3 := Lib.hid c3
  have C4 := Lib.hid c4
  have C5 := Lib.hid c5
  clear c1 c2 c3 c4 c5
  go_enter Try.func22, Try.ntmps22
  go_wp2_with fail
  refine (C1.out _).mono ?_
  rintro e w' ⟨rfl, rfl⟩
  go_wp2_with fail
  refine (C2.out _).mono ?_
  rintro e w' ⟨rfl, rfl⟩
  go_wp2_with fail
  refine (C3.out _).mono ?_
  rintro e w' ⟨rfl, rfl⟩
  go_wp2_with fail
  refine (C4.out _).mono ?_
  rintro e w' ⟨rfl, rfl⟩
  go_wp2_with fail
  refine (C5.out _).mono ?_
  rintro e w' ⟨rfl, rfl⟩
  go_wp2
  go_ret
  exact ⟨rfl, rfl⟩
end Go.Proofs.Ytlmphmfadikdpaa
