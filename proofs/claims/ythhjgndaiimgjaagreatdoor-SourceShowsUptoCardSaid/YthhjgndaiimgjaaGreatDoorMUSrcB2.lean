/- Parts of a proof, laid together. -/
import Derived.Test.YthhjgndaiimgjaaGreatDoorRows
import Derived.WalkKit
import Derived.WalkSpells
import Derived.WalkLawsBesides
import Derived.Handy
import Derived.Lib.Hide
import Derived.Deep.QuietTactic
import Derived.BigQuiet
import Derived.Deep.RegionHeld3
import Derived.Deep.DrawnRows
import Derived.Laws.IdiomStrings
import Derived.Lib.ItoaLen
import Derived.Test.YthhjgndaiimgjaaGreatDoorMUSrcB0
set_option linter.unusedSimpArgs false
set_option linter.unusedVariables false
/-! The walks of package days and of the reference's first functions. -/
section
set_option linter.unusedVariables false
set_option linter.unusedSimpArgs false
namespace Go.Proofs.YthhjgndaiimgjaaGreatDoor
open Go.RowKit Gno

theorem ret_bool {a b : Bool} (h : a = b) : Ending.returned (.bool a) = .returned (.bool b) := by rw [h]
theorem ret_int {k : IntKind} {a b : Int} (h : a = b) : Ending.returned (.int k a) = .returned (.int k b) := by rw [h]

theorem year_any (y : Int) (w : World) :
    Calls Tryz.prog 114 #[.int .i64 y] w fun e w' => e = .returned (.bool (isYear y)) ∧ w = w' := by
  by_cases h1 : 1970 ≤ y
  · by_cases h2 : y ≤ 2029
    all_goals
      go_enter Tryz.func114, Tryz.ntmps114
      go_wp2
      go_ret
      exact ⟨ret_bool (by simp [isYear]; omega), rfl⟩
  · go_enter Tryz.func114, Tryz.ntmps114
    go_wp2
    go_ret
    exact ⟨ret_bool (by simp [isYear]; omega), rfl⟩

theorem begin_any (y : Int) (w : World) (h1 : 1970 ≤ y) (h2 : y ≤ 2030) :
    Calls Tryz.prog 116 #[.int .i64 y] w fun e w' => e = .returned (.int .i64 (begin_ y)) ∧ w = w' := by
  go_enter Tryz.func116, Tryz.ntmps116
  go_wp2
  go_ret
  exact ⟨ret_int (by unfold begin_; omega), rfl⟩

/-- the table of package days, read at a place. -/
theorem table_at (m : Int) (h1 : 1 ≤ m) (h2 : m ≤ 13) (w : World) :
    (Instr.index 162 (.agg #[.int .i64 0, .int .i64 0, .int .i64 31, .int .i64 59, .int .i64 90, .int .i64 120, .int .i64 151, .int .i64 181, .int .i64 212, .int .i64 243, .int .i64 273, .int .i64 304, .int .i64 334, .int .i64 365]) (.int .i64 m)).run Tryz.prog w = .ok (.int .i64 (cum0 m)) w := by
  rcases (by omega : m = 1 ∨ m = 2 ∨ m = 3 ∨ m = 4 ∨ m = 5 ∨ m = 6 ∨ m = 7 ∨ m = 8 ∨ m = 9 ∨ m = 10 ∨ m = 11 ∨ m = 12 ∨ m = 13) with rfl | rfl | rfl | rfl | rfl | rfl | rfl | rfl | rfl | rfl | rfl | rfl | rfl <;> kernel_rfl

theorem ahead_any (y m : Int) (w : World) (h1 : 1 ≤ m) (h2 : m ≤ 13) (hy1 : 1970 ≤ y) (hy2 : y ≤ 2030) :
    Calls Tryz.prog 115 #[.int .i64 y, .int .i64 m] w fun e w' => e = .returned (.int .i64 (aheadY y m)) ∧ w = w' := by
  have ht := table_at m h1 h2
  have hb := cum0_bd m
  by_cases h3 : y % 4 = 0
  · by_cases h4 : 2 < m
    all_goals
      go_enter Tryz.func115, Tryz.ntmps115
      go_wp2
      go_ret
      exact ⟨ret_int (by unfold aheadY lp; (repeat' split) <;> omega), rfl⟩
  · go_enter Tryz.func115, Tryz.ntmps115
    go_wp2
    go_ret
    exact ⟨ret_int (by unfold aheadY lp; (repeat' split) <;> omega), rfl⟩


theorem size_no (y m : Int) (w : World) (h : ¬ (1970 ≤ y ∧ y ≤ 2029 ∧ 1 ≤ m ∧ m ≤ 12)) :
    Calls Tryz.prog 99 #[.int .i64 y, .int .i64 m] w fun e w' => e = .returned (.int .i64 0) ∧ w = w' := by
  by_cases h1 : isYear y = true
  · have h1' : 1970 ≤ y ∧ y ≤ 2029 := by simpa [isYear] using h1
    by_cases h2 : m < 1
    · clear h
      go_enter Tryz.func99, Tryz.ntmps99
      go_wp2_with (go_at_call 114; refine (year_any _ _).mono ?_; rintro e w' ⟨rfl, rfl⟩)
      go_ret
      exact ⟨rfl, rfl⟩
    · have h3 : 12 < m := by omega
      clear h
      go_enter Tryz.func99, Tryz.ntmps99
      go_wp2_with (go_at_call 114; refine (year_any _ _).mono ?_; rintro e w' ⟨rfl, rfl⟩)
      go_ret
      exact ⟨rfl, rfl⟩
  · have h1' : isYear y = false := by simpa using h1
    clear h h1
    go_enter Tryz.func99, Tryz.ntmps99
    go_wp2_with (go_at_call 114; refine (year_any _ _).mono ?_; rintro e w' ⟨rfl, rfl⟩)
    go_ret
    exact ⟨rfl, rfl⟩

theorem size_yes (y m : Int) (w : World) (hy1 : 1970 ≤ y) (hy2 : y ≤ 2029) (h1 : 1 ≤ m) (h2 : m ≤ 12) :
    Calls Tryz.prog 99 #[.int .i64 y, .int .i64 m] w fun e w' => e = .returned (.int .i64 (size y m)) ∧ w = w' := by
  have hy : isYear y = true := by simp [isYear]; omega
  have b1 := aheadY_bd y m
  have b2 := aheadY_bd y (m + 1)
  go_enter Tryz.func99, Tryz.ntmps99
  go_wp2_with (first
    | (go_at_call 114; refine (year_any _ _).mono ?_; rintro e w' ⟨rfl, rfl⟩)
    | (go_at_call 115; refine (ahead_any _ _ _ (by omega) (by omega) hy1 (by omega)).mono ?_; rintro e w' ⟨rfl, rfl⟩))
  go_ret
  exact ⟨rfl, rfl⟩

end Go.Proofs.YthhjgndaiimgjaaGreatDoor
end
/-! The walks of package days, more. -/
section
set_option linter.unusedVariables false
set_option linter.unusedSimpArgs false
namespace Go.Proofs.YthhjgndaiimgjaaGreatDoor
open Go.RowKit Gno
theorem days_yes (y m d : Int) (w : World) (h : isDate y m d = true) :
    Calls Tryz.prog 100 #[.int .i64 y, .int .i64 m, .int .i64 d] w fun e w' => e = .returned (.tuple #[.int .i64 (num y m d), .int .i64 0]) ∧ w = w' := by
  have h' := (isDate_iff y m d).1 h
  clear h
  obtain ⟨⟨h1, h2⟩, ⟨h3, h4⟩, h5, h6⟩ := h'
  have b := size_bd y m (by omega) (by omega)
  have b1 := begin_bd y h1 (by omega)
  have b2 := aheadY_bd y m
  go_enter Tryz.func100, Tryz.ntmps100
  go_wp2_with (first
    | (go_at_call 99; refine (size_yes _ _ _ h1 h2 h3 h4).mono ?_; rintro e w' ⟨rfl, rfl⟩)
    | (go_at_call 116; refine (begin_any _ _ h1 (by omega)).mono ?_; rintro e w' ⟨rfl, rfl⟩)
    | (go_at_call 115; refine (ahead_any _ _ _ h3 (by omega) h1 (by omega)).mono ?_; rintro e w' ⟨rfl, rfl⟩))
  go_ret2
  exact ⟨rfl, rfl⟩


end Go.Proofs.YthhjgndaiimgjaaGreatDoor
end
/-! The walk of days.Date; the reference's leaves. -/
section
set_option linter.unusedVariables false
set_option linter.unusedSimpArgs false
namespace Go.Proofs.YthhjgndaiimgjaaGreatDoor
open Go.RowKit Gno

end Go.Proofs.YthhjgndaiimgjaaGreatDoor
end
/-! The reference's leaves. -/
section
set_option linter.unusedVariables false
set_option linter.unusedSimpArgs false
namespace Go.Proofs.YthhjgndaiimgjaaGreatDoor
open Go.RowKit Gno

def withinB (n lo hi : Int) : Bool := decide (lo ≤ n ∧ n ≤ hi)
theorem withinB_iff (n lo hi : Int) : withinB n lo hi = true ↔ lo ≤ n ∧ n ≤ hi := by simp [withinB]
theorem withinB_no (n lo hi : Int) : withinB n lo hi = false ↔ ¬ (lo ≤ n ∧ n ≤ hi) := by unfold withinB; rw [decide_eq_false_iff_not]

theorem within_any (n lo hi : Int) (w : World) :
    Calls Tryz.prog 16 #[.int .i64 n, .int .i64 lo, .int .i64 hi] w fun e w' => e = .returned (.bool (withinB n lo hi)) ∧ w = w' := by
  by_cases h1 : lo ≤ n
  · by_cases h2 : n ≤ hi
    all_goals
      go_enter Tryz.func16, Tryz.ntmps16
      go_wp2
      go_ret
      exact ⟨ret_bool (by simp [withinB]; omega), rfl⟩
  · go_enter Tryz.func16, Tryz.ntmps16
    go_wp2
    go_ret
    exact ⟨ret_bool (by simp [withinB]; omega), rfl⟩

theorem isYearR_any (y : Int) (w : World) :
    Calls Tryz.prog 56 #[.int .i64 y] w fun e w' => e = .returned (.bool (isYear y)) ∧ w = w' := by
  go_enter Tryz.func56, Tryz.ntmps56
  go_wp2_with (go_at_call 16; refine (within_any _ _ _ _).mono ?_; rintro e w' ⟨rfl, rfl⟩)
  go_ret
  exact ⟨rfl, rfl⟩

theorem isMonthR_any (y : Int) (w : World) :
    Calls Tryz.prog 57 #[.int .i64 y] w fun e w' => e = .returned (.bool (isMonth y)) ∧ w = w' := by
  go_enter Tryz.func57, Tryz.ntmps57
  go_wp2_with (go_at_call 16; refine (within_any _ _ _ _).mono ?_; rintro e w' ⟨rfl, rfl⟩)
  go_ret
  exact ⟨rfl, rfl⟩

theorem yearDays_any (y : Int) (w : World) (h1 : 1970 ≤ y) (h2 : y ≤ 2030) :
    Calls Tryz.prog 105 #[.int .i64 y] w fun e w' => e = .returned (.int .i64 (yearDays y)) ∧ w = w' := by
  by_cases h3 : y % 4 = 0
  all_goals
    go_enter Tryz.func105, Tryz.ntmps105
    go_wp2
    go_ret
    exact ⟨ret_int (by unfold yearDays; split <;> omega), rfl⟩

theorem weekOf_any (n : Int) (w : World) (h1 : 0 ≤ n) (h2 : n ≤ 21914) :
    Calls Tryz.prog 90 #[.int .i64 n] w fun e w' => e = .returned (.int .i64 ((n + 4) % 7)) ∧ w = w' := by
  go_enter Tryz.func90, Tryz.ntmps90
  go_wp2
  go_ret
  exact ⟨rfl, rfl⟩

theorem size_vals (y : Int) : size y 1 = 31 ∧ size y 2 = 28 + lp y ∧ size y 3 = 31 ∧ size y 4 = 30 ∧ size y 5 = 31 ∧ size y 6 = 30 ∧ size y 7 = 31 ∧ size y 8 = 31 ∧ size y 9 = 30 ∧ size y 10 = 31 ∧ size y 11 = 30 ∧ size y 12 = 31 := by
  refine ⟨?_, ?_, ?_, ?_, ?_, ?_, ?_, ?_, ?_, ?_, ?_, ?_⟩ <;> rw [size_is _ _ (by omega) (by omega)] <;> simp

/-- the reference's table of months: a plain year's. -/
def mtab : List Value := [.int .i64 31, .int .i64 28, .int .i64 31, .int .i64 30, .int .i64 31, .int .i64 30, .int .i64 31, .int .i64 31, .int .i64 30, .int .i64 31, .int .i64 30, .int .i64 31]
theorem mtab_at (y m : Int) (h1 : 1 ≤ m) (h2 : m ≤ 12) : ∃ v : Int, 28 ≤ v ∧ v ≤ 31 ∧ mtab[m.toNat - 1]? = some (.int .i64 v) ∧ size y m = v + if m = 2 then lp y else 0 := by
  obtain ⟨a1, a2, a3, a4, a5, a6, a7, a8, a9, a10, a11, a12⟩ := size_vals y
  rcases months h1 h2 with rfl | rfl | rfl | rfl | rfl | rfl | rfl | rfl | rfl | rfl | rfl | rfl
  · exact ⟨31, by omega, by omega, rfl, a1⟩
  · exact ⟨28, by omega, by omega, rfl, a2⟩
  · exact ⟨31, by omega, by omega, rfl, a3⟩
  · exact ⟨30, by omega, by omega, rfl, a4⟩
  · exact ⟨31, by omega, by omega, rfl, a5⟩
  · exact ⟨30, by omega, by omega, rfl, a6⟩
  · exact ⟨31, by omega, by omega, rfl, a7⟩
  · exact ⟨31, by omega, by omega, rfl, a8⟩
  · exact ⟨30, by omega, by omega, rfl, a9⟩
  · exact ⟨31, by omega, by omega, rfl, a10⟩
  · exact ⟨30, by omega, by omega, rfl, a11⟩
  · exact ⟨31, by omega, by omega, rfl, a12⟩

theorem monthDays_any (y m : Int) (w : World) (hy1 : 1970 ≤ y) (hy2 : y ≤ 2029) (h1 : 1 ≤ m) (h2 : m ≤ 12) :
    Calls Tryz.prog 88 #[.int .i64 y, .int .i64 m] w fun e w' => e = .returned (.int .i64 (size y m)) ∧ Below w.heap.size w w' := by
  obtain ⟨v, v1, v2, hc, hv⟩ := mtab_at y m h1 h2
  unfold mtab at hc
  have hV := Lib.hid hv
  clear hv
  by_cases hm : m = 2
  · have hm' : (m == 2) = true := by simpa using hm
    have hM := Lib.hid hm
    clear hm
    by_cases h3 : y % 4 = 0
    · go_enter Tryz.func88, Tryz.ntmps88
      go_wp2
      go_ret
      exact ⟨ret_int (by rw [hV.out, if_pos hM.out]; unfold lp; rw [if_pos h3]), (Below.refl _ _).alloc (Nat.le_refl _) _⟩
    · go_enter Tryz.func88, Tryz.ntmps88
      go_wp2
      go_ret
      exact ⟨ret_int (by rw [hV.out, if_pos hM.out]; unfold lp; rw [if_neg h3]; omega), (Below.refl _ _).alloc (Nat.le_refl _) _⟩
  · have hm' : (m == 2) = false := by simpa using hm
    have hM := Lib.hid hm
    clear hm
    go_enter Tryz.func88, Tryz.ntmps88
    go_wp2
    go_ret
    exact ⟨ret_int (by rw [hV.out, if_neg hM.out]; omega), (Below.refl _ _).alloc (Nat.le_refl _) _⟩

end Go.Proofs.YthhjgndaiimgjaaGreatDoor
end
/-! The reference's DaysOf and DateOf. -/
section
set_option linter.unusedVariables false
set_option linter.unusedSimpArgs false
namespace Go.Proofs.YthhjgndaiimgjaaGreatDoor
open Go.RowKit Gno

theorem ret_int2 {k : IntKind} {a b : Int} {v : Value} (h : a = b) : Ending.returned (.tuple #[.int k a, v]) = .returned (.tuple #[.int k b, v]) := by rw [h]

theorem isMonth_iff (m : Int) : isMonth m = true ↔ 1 ≤ m ∧ m ≤ 12 := by simp [isMonth]
theorem isYear_iff (m : Int) : isYear m = true ↔ 1970 ≤ m ∧ m ≤ 2029 := by simp [isYear]

set_option maxHeartbeats 1000000 in
theorem daysOf_yes (y m d : Int) (w : World) (h : isDate y m d = true) :
    Calls Tryz.prog 89 #[.int .i64 y, .int .i64 m, .int .i64 d] w fun e w' => e = .returned (.tuple #[.int .i64 (num y m d), .int .i64 0]) ∧ Below w.heap.size w w' := by
  obtain ⟨⟨y1, y2⟩, ⟨m1, m2⟩, d1, d2⟩ := (isDate_iff y m d).1 h
  have hy := (isYear_iff y).2 ⟨y1, y2⟩
  have hm := (isMonth_iff m).2 ⟨m1, m2⟩
  have hd := (withinB_iff d 1 (size y m)).2 ⟨d1, d2⟩
  have b := size_bd y m m1 m2
  clear h
  go_enter Tryz.func89, Tryz.ntmps89
  go_wp2_with (first
    | (go_at_call 56; refine (isYearR_any _ _).mono ?_; rintro e w' ⟨rfl, rfl⟩)
    | (go_at_call 57; refine (isMonthR_any _ _).mono ?_; rintro e w' ⟨rfl, rfl⟩)
    | (go_at_call 88; refine (monthDays_any _ _ _ y1 y2 m1 m2).mono ?_; rintro e w1 ⟨rfl, hb1⟩)
    | (go_at_call 16; refine (within_any _ _ _ _).mono ?_; rintro e w' ⟨rfl, rfl⟩))
  go_loop [8, 9] (fun n t => ∃ k : Int, 1970 ≤ k ∧ k ≤ y ∧ t = .int .i64 k ∧ n = .int .i64 (d - 1 + begin_ k)) (fun _ t => (y - intOf t).toNat)
  case atStart => exact ⟨1970, by omega, y1, rfl, by simp [begin_1970]⟩
  case round =>
    obtain ⟨k, k1, k2, rfl, rfl⟩ := hrel
    have c := begin_bd k k1 (by omega)
    by_cases hk : k < y
    · have hs := Lib.hid (begin_succ k)
      have hyd := Lib.hid (yearDays_is k)
      have hl := lp_01 k
      have hyb : 365 ≤ yearDays k ∧ yearDays k ≤ 366 := by have := yearDays_is k; omega
      go_wp2_with (go_at_call 105; refine (yearDays_any _ _ k1 (by omega)).mono ?_; rintro e w' ⟨rfl, rfl⟩)
      go_round
      case rel => exact ⟨k + 1, by omega, by omega, rfl, by rw [hs.out, hyd.out]; go_num⟩
      case measure => simp [intOf]; omega
    · obtain rfl : k = y := by omega
      clear hk k1 k2
      go_wp2
      go_loopw [8, 10] (fun n t wr => ∃ j : Int, 1 ≤ j ∧ j ≤ m ∧ t = .int .i64 j ∧ n = .int .i64 (d - 1 + begin_ k + aheadY k j) ∧ Below w.heap.size w wr) (fun _ t _ => (m - intOf t).toNat)
      case atStart => exact ⟨1, by omega, m1, rfl, by simp [aheadY_one], hb1⟩
      case round =>
        obtain ⟨j, j1, j2, rfl, rfl, hb2⟩ := hrel
        have c2 := aheadY_bd k j
        by_cases hj : j < m
        · have hs := Lib.hid (aheadY_succ k j)
          have hsb := size_bd k j (by omega) (by omega)
          go_wp2_with (go_at_call 88; refine (monthDays_any _ _ _ y1 y2 (by omega) (by omega)).mono ?_; rintro e w2 ⟨rfl, hb3⟩)
          go_roundw
          case rel => exact ⟨j + 1, by omega, by omega, rfl, by rw [hs.out]; go_num, hb2.trans (hb3.mono hb2.size)⟩
          case measure => simp [intOf]; omega
        · obtain rfl : j = m := by omega
          go_wp2
          go_ret2
          exact ⟨ret_int2 (by unfold num; omega), hb2⟩

end Go.Proofs.YthhjgndaiimgjaaGreatDoor
end
/-! The contracts of days, whatever is handed in; what must be in any case. -/
section
set_option linter.unusedVariables false
set_option linter.unusedSimpArgs false
namespace Gno
def daysN (y m d : Int) : Int := if isDate y m d = true then num y m d else 0
def daysE (y m d : Int) : Int := if isDate y m d = true then 0 else 3
def dateY (n : Int) : Int := if isDay n = true then yOf n else 0
def dateM (n : Int) : Int := if isDay n = true then mOf n else 0
def dateD (n : Int) : Int := if isDay n = true then dOf n else 0
def dateE (n : Int) : Int := if isDay n = true then 0 else 3
def weekN (n : Int) : Int := if isDay n = true then (n + 4) % 7 else 0
def leapB (y : Int) : Bool := isYear y && (y % 4 == 0)
def leapE (y : Int) : Int := if isYear y = true then 0 else 3
end Gno
namespace Go.Proofs.YthhjgndaiimgjaaGreatDoor
open Go.RowKit Gno
end Go.Proofs.YthhjgndaiimgjaaGreatDoor
end
/-! The walks of package pick. -/
section
set_option linter.unusedVariables false
set_option linter.unusedSimpArgs false
namespace Go.Proofs.YthhjgndaiimgjaaGreatDoor
open Go.RowKit Gno

theorem pcheck_any (k wk d : Int) (w : World) :
    Calls Tryz.prog 77 #[.agg #[.int .i64 k, .int .i64 wk, .int .i64 d]] w fun e w' => e = .returned (.int .i64 (onE k wk d)) ∧ Below w.heap.size w w' := by
  by_cases h1 : k = 1
  · subst h1
    by_cases h2 : wk = 0
    · subst h2
      go_enter Tryz.func77, Tryz.ntmps77
      go_wp2
      all_goals
        go_ret
        exact ⟨ret_int (by unfold onE; simp; try omega), (Below.refl _ _).alloc (Nat.le_refl _) _⟩
    · have hb : (wk != 0) = true := by simpa using h2
      go_enter Tryz.func77, Tryz.ntmps77
      go_wp2
      all_goals
        go_ret
        exact ⟨ret_int (by unfold onE; simp; try omega), (Below.refl _ _).alloc (Nat.le_refl _) _⟩
  · by_cases h2 : k = 2
    · subst h2
      go_enter Tryz.func77, Tryz.ntmps77
      go_wp2
      all_goals
        go_ret
        exact ⟨ret_int (by unfold onE; simp; try omega), (Below.refl _ _).alloc (Nat.le_refl _) _⟩
    · by_cases h3 : k = 3
      · subst h3
        go_enter Tryz.func77, Tryz.ntmps77
        go_wp2
        all_goals
          go_ret
          exact ⟨ret_int (by unfold onE; simp; try omega), (Below.refl _ _).alloc (Nat.le_refl _) _⟩
      · have b1 : (k == 1) = false := by simpa using h1
        have b2 : (k == 2) = false := by simpa using h2
        have b3 : (k == 3) = false := by simpa using h3
        go_enter Tryz.func77, Tryz.ntmps77
        go_wp2
        all_goals
          go_ret
          exact ⟨ret_int (by unfold onE; rw [if_neg h1, if_neg h2, if_neg h3]), (Below.refl _ _).alloc (Nat.le_refl _) _⟩

theorem find1_any (c x : Int) (B : Nat) (w : World) (hc : w.cell? ⟨B, 0, none⟩ = some (.int .i64 c)) (c1 : 0 ≤ c) (c2 : c ≤ 21914) (x1 : 0 ≤ x) (x2 : x ≤ 100) :
    Calls Tryz.prog 101 #[.int .i64 x, .pointer (some ⟨B, 0, none⟩)] w fun e w' => e = .returned (.int .i64 ((c + x + 3) % 7)) ∧ w = w' := by
  go_enter Tryz.func101, Tryz.ntmps101
  go_wp2
  go_ret
  exact ⟨rfl, rfl⟩
end Go.Proofs.YthhjgndaiimgjaaGreatDoor
end
/-! The walk of pick.Find. -/
section
set_option linter.unusedVariables false
set_option linter.unusedSimpArgs false
namespace Go.Proofs.YthhjgndaiimgjaaGreatDoor
open Go.RowKit Gno

theorem bcell {W w1 : World} (hb : Below W.heap.size W w1) : (∀ b o, b < W.heap.size → w1.cell? ⟨b, o, none⟩ = W.cell? ⟨b, o, none⟩) ∧ (∀ b o, b < W.heap.size → w1.frozen? ⟨b, o, none⟩ = W.frozen? ⟨b, o, none⟩) :=
  ⟨fun b o h => hb.cell (p := ⟨b, o, none⟩) h, fun b o h => hb.frozen (p := ⟨b, o, none⟩) h⟩

theorem ret_ii {k k' : IntKind} {a b a' b' : Int} (h : a = b) (h' : a' = b') : Ending.returned (.tuple #[.int k a, .int k' a']) = .returned (.tuple #[.int k b, .int k' b']) := by rw [h, h']

theorem below_drewN {B : Nat} {a w : World} (h : Below B a w) (n : Nat) : Below B a (w.drewN n) := ⟨h.os, h.tape, h.output, h.size, h.block⟩

theorem find_bad (y m k wk d : Int) (w : World) (h : onE k wk d ≠ 0) :
    Calls Tryz.prog 78 #[.int .i64 y, .int .i64 m, .agg #[.int .i64 k, .int .i64 wk, .int .i64 d]] w fun e w' => e = .returned (.tuple #[.int .i64 0, .int .i64 (onE k wk d)]) ∧ Below w.heap.size w w' := by
  have hb : (onE k wk d != 0) = true := by simpa using h
  clear h
  go_enter Tryz.func78, Tryz.ntmps78
  go_wp2_with (go_at_call 77; refine (pcheck_any _ _ _ _).mono ?_; rintro e w1 ⟨rfl, hb1⟩)
  go_ret2
  exact ⟨rfl, ((Below.refl _ _).alloc (Nat.le_refl _) _).trans (hb1.mono (by simp))⟩

theorem isYM_iff (y m : Int) : isYM y m = true ↔ (1970 ≤ y ∧ y ≤ 2029) ∧ (1 ≤ m ∧ m ≤ 12) := by simp [isYM, isYear, isMonth]

theorem find_none (y m k wk d : Int) (w : World) (h : onE k wk d = 0) (hy : isYM y m = false) :
    Calls Tryz.prog 78 #[.int .i64 y, .int .i64 m, .agg #[.int .i64 k, .int .i64 wk, .int .i64 d]] w fun e w' => e = .returned (.tuple #[.int .i64 0, .int .i64 3]) ∧ Below w.heap.size w w' := by
  have hb : (onE k wk d != 0) = false := by simpa using h
  have hn : ¬ (1970 ≤ y ∧ y ≤ 2029 ∧ 1 ≤ m ∧ m ≤ 12) := fun x => by
    rw [(isYM_iff y m).2 ⟨⟨x.1, x.2.1⟩, x.2.2.1, x.2.2.2⟩] at hy; cases hy
  have S := Lib.hid (fun w => size_no y m w hn)
  clear h hy hn
  go_enter Tryz.func78, Tryz.ntmps78
  go_wp2_with (first
    | (go_at_call 77; refine (pcheck_any _ _ _ _).mono ?_; rintro e w1 ⟨rfl, hb1⟩)
    | (go_at_call 99; refine (S.out _).mono ?_; rintro e w' ⟨rfl, rfl⟩))
  go_ret2
  exact ⟨rfl, ((Below.refl _ _).alloc (Nat.le_refl _) _).trans (hb1.mono (by simp))⟩

/-- the two answers, where the On and the month are right. -/
theorem find_lt (y m k wk d : Int) (h : onE k wk d = 0) (hy : isYM y m = true) (hl : size y m < findR y m k wk d) : findN y m k wk d = 0 ∧ findE y m k wk d = 4 := by
  unfold findN findE
  simp [h, hy, hl]
theorem find_ge (y m k wk d : Int) (h : onE k wk d = 0) (hy : isYM y m = true) (hl : ¬ size y m < findR y m k wk d) : findN y m k wk d = findR y m k wk d ∧ findE y m k wk d = 0 := by
  unfold findN findE
  simp [h, hy, hl]

set_option maxHeartbeats 1000000 in
theorem find_ok (y m k wk d : Int) (w : World) (h : onE k wk d = 0) (hy : isYM y m = true) :
    Calls Tryz.prog 78 #[.int .i64 y, .int .i64 m, .agg #[.int .i64 k, .int .i64 wk, .int .i64 d]] w fun e w' =>
      e = .returned (.tuple #[.int .i64 (findN y m k wk d), .int .i64 (findE y m k wk d)]) ∧ Below w.heap.size w w' := by
  have hb : (onE k wk d != 0) = false := by simpa using h
  obtain ⟨⟨y1, y2⟩, m1, m2⟩ := (isYM_iff y m).1 hy
  have hs := size_bd y m m1 m2
  have hd := (isDate_iff y m 1).2 ⟨⟨y1, y2⟩, ⟨m1, m2⟩, by omega, by omega⟩
  have hf := (isDay_iff _).1 (day_of y m 1 hd).1
  have S := Lib.hid (fun w => size_yes y m w y1 y2 m1 m2)
  have D := Lib.hid (fun w => days_yes y m 1 w hd)
  have hlt := find_lt y m k wk d h hy
  have hge := find_ge y m k wk d h hy
  obtain ⟨f, hfe⟩ : ∃ f, f = num y m 1 := ⟨_, rfl⟩
  obtain ⟨s, hse⟩ : ∃ s, s = size y m := ⟨_, rfl⟩
  have hR : findR y m k wk d = pickR k wk d (f + 3) s := by unfold findR pick1; rw [hfe, hse]
  rw [← hfe] at D hf
  rw [← hse] at S hs
  rw [hR, ← hse] at hlt hge
  have HC := onE_ok h
  have hsb : (s == 0) = false := by simp; omega
  obtain ⟨f1, f2⟩ := hf
  obtain ⟨s1, s2⟩ := hs
  clear h hy hd hfe hse hR y1 y2 m1 m2
  rcases HC with ⟨rfl, rfl, d1, d2⟩ | ⟨rfl, ⟨k1, k2⟩, rfl⟩ | ⟨rfl, ⟨k1, k2⟩, d1, d2⟩
  · rw [exact_is] at hlt hge
    by_cases hl : s < d
    · have HN := Lib.hid (hlt hl).1
      have HX := Lib.hid (hlt hl).2
      clear hlt hge
      go_enter Tryz.func78, Tryz.ntmps78
      go_wp2_with (first
        | (go_at_call 77; refine (pcheck_any _ _ _ _).mono ?_; rintro e w1 ⟨rfl, hb1⟩; obtain ⟨hc, hfz⟩ := bcell hb1; have hz : w.heap.size < w1.heap.size := (by have := hb1.size; simp at this; omega); have hbw : Below w.heap.size w w1 := ((Below.refl _ _).alloc (Nat.le_refl _) _).trans (hb1.mono (by simp)))
        | (go_at_call 99; refine (S.out _).mono ?_; rintro e w' ⟨rfl, rfl⟩)
        | (go_at_call 100; refine (D.out _).mono ?_; rintro e w' ⟨rfl, rfl⟩))
      go_ret2
      refine ⟨ret_ii (by rw [HN.out]) (by rw [HX.out]), ?_⟩
      go_grown
    · have HN := Lib.hid (hge hl).1
      have HX := Lib.hid (hge hl).2
      clear hlt hge
      go_enter Tryz.func78, Tryz.ntmps78
      go_wp2_with (first
        | (go_at_call 77; refine (pcheck_any _ _ _ _).mono ?_; rintro e w1 ⟨rfl, hb1⟩; obtain ⟨hc, hfz⟩ := bcell hb1; have hz : w.heap.size < w1.heap.size := (by have := hb1.size; simp at this; omega); have hbw : Below w.heap.size w w1 := ((Below.refl _ _).alloc (Nat.le_refl _) _).trans (hb1.mono (by simp)))
        | (go_at_call 99; refine (S.out _).mono ?_; rintro e w' ⟨rfl, rfl⟩)
        | (go_at_call 100; refine (D.out _).mono ?_; rintro e w' ⟨rfl, rfl⟩))
      go_ret2
      refine ⟨ret_ii (by rw [HN.out]) (by rw [HX.out]), ?_⟩
      go_grown
  · have hli := last_is wk 0 (f + 3) s k1 k2
    have hr : pickR 2 wk 0 (f + 3) s = s - ((f + s + 3) % 7 - wk + 7) % 7 := by
      unfold pickR; rw [if_pos rfl, show f + 3 + s = f + s + 3 by omega]
    have hl : ¬ s < pickR 2 wk 0 (f + 3) s := by omega
    have HN := Lib.hid (hge hl).1
    have HX := Lib.hid (hge hl).2
    rw [hr] at HN
    have hq : 0 ≤ (f + s + 3) % 7 ∧ (f + s + 3) % 7 ≤ 6 := by omega
    obtain ⟨q1, q2⟩ := hq
    have hq3 : ¬ s < s - ((f + s + 3) % 7 - wk + 7) % 7 := by omega
    clear hlt hge hli hr hl
    · go_enter Tryz.func78, Tryz.ntmps78
      go_wp2_with (first
        | (go_at_call 77; refine (pcheck_any _ _ _ _).mono ?_; rintro e w1 ⟨rfl, hb1⟩; obtain ⟨hc, hfz⟩ := bcell hb1; have hz : w.heap.size < w1.heap.size := (by have := hb1.size; simp at this; omega); have hbw : Below w.heap.size w w1 := ((Below.refl _ _).alloc (Nat.le_refl _) _).trans (hb1.mono (by simp)))
        | (go_at_call 99; refine (S.out _).mono ?_; rintro e w' ⟨rfl, rfl⟩)
        | (go_at_call 100; refine (D.out _).mono ?_; rintro e w' ⟨rfl, rfl⟩))
      go_quiet ((go_at_call 101; exact Calls.quiet_of_same ((find1_any f s w1.heap.size _ (by simp) f1 f2 (by omega) (by omega)).mono fun _ _ h => ⟨h.1, h.2.symm⟩)))
      go_wp2
      go_ret2
      refine ⟨ret_ii (by rw [HN.out]; try omega) (by rw [HX.out]), ?_⟩
      exact below_drewN (hbw.alloc (by omega) _) _
  · have hli := after_is wk d (f + 3) s k1 k2
    have hr : pickR 3 wk d (f + 3) s = d + (wk - (f + d + 3) % 7 + 7) % 7 := by
      unfold pickR; rw [if_neg (by omega), if_pos rfl, show f + 3 + d = f + d + 3 by omega]
    have hq : 0 ≤ (f + d + 3) % 7 ∧ (f + d + 3) % 7 ≤ 6 := by omega
    obtain ⟨q1, q2⟩ := hq
    rw [hr] at hlt hge
    by_cases hl : s < d + (wk - (f + d + 3) % 7 + 7) % 7
    · have HN := Lib.hid (hlt hl).1
      have HX := Lib.hid (hlt hl).2
      clear hlt hge hli hr
      go_enter Tryz.func78, Tryz.ntmps78
      go_wp2_with (first
        | (go_at_call 77; refine (pcheck_any _ _ _ _).mono ?_; rintro e w1 ⟨rfl, hb1⟩; obtain ⟨hc, hfz⟩ := bcell hb1; have hz : w.heap.size < w1.heap.size := (by have := hb1.size; simp at this; omega); have hbw : Below w.heap.size w w1 := ((Below.refl _ _).alloc (Nat.le_refl _) _).trans (hb1.mono (by simp)))
        | (go_at_call 99; refine (S.out _).mono ?_; rintro e w' ⟨rfl, rfl⟩)
        | (go_at_call 100; refine (D.out _).mono ?_; rintro e w' ⟨rfl, rfl⟩))
      go_quiet ((go_at_call 101; exact Calls.quiet_of_same ((find1_any f d w1.heap.size _ (by simp) f1 f2 (by omega) (by omega)).mono fun _ _ h => ⟨h.1, h.2.symm⟩)))
      go_wp2
      go_ret2
      refine ⟨ret_ii (by rw [HN.out]; try omega) (by rw [HX.out]), ?_⟩
      exact below_drewN (hbw.alloc (by omega) _) _
    · have HN := Lib.hid (hge hl).1
      have HX := Lib.hid (hge hl).2
      clear hlt hge hli hr
      go_enter Tryz.func78, Tryz.ntmps78
      go_wp2_with (first
        | (go_at_call 77; refine (pcheck_any _ _ _ _).mono ?_; rintro e w1 ⟨rfl, hb1⟩; obtain ⟨hc, hfz⟩ := bcell hb1; have hz : w.heap.size < w1.heap.size := (by have := hb1.size; simp at this; omega); have hbw : Below w.heap.size w w1 := ((Below.refl _ _).alloc (Nat.le_refl _) _).trans (hb1.mono (by simp)))
        | (go_at_call 99; refine (S.out _).mono ?_; rintro e w' ⟨rfl, rfl⟩)
        | (go_at_call 100; refine (D.out _).mono ?_; rintro e w' ⟨rfl, rfl⟩))
      go_quiet ((go_at_call 101; exact Calls.quiet_of_same ((find1_any f d w1.heap.size _ (by simp) f1 f2 (by omega) (by omega)).mono fun _ _ h => ⟨h.1, h.2.symm⟩)))
      go_wp2
      go_ret2
      refine ⟨ret_ii (by rw [HN.out]; try omega) (by rw [HX.out]), ?_⟩
      exact below_drewN (hbw.alloc (by omega) _) _

theorem find_any (y m k wk d : Int) (w : World) :
    Calls Tryz.prog 78 #[.int .i64 y, .int .i64 m, .agg #[.int .i64 k, .int .i64 wk, .int .i64 d]] w fun e w' =>
      e = .returned (.tuple #[.int .i64 (findN y m k wk d), .int .i64 (findE y m k wk d)]) ∧ Below w.heap.size w w' := by
  by_cases h : onE k wk d = 0
  · cases hy : isYM y m
    · rw [show findN y m k wk d = 0 by simp [findN, h, hy], show findE y m k wk d = 3 by simp [findE, h, hy]]
      exact find_none y m k wk d w h hy
    · exact find_ok y m k wk d w h hy
  · rw [show findN y m k wk d = 0 by simp [findN, h], show findE y m k wk d = onE k wk d by simp [findE, h]]
    exact find_bad y m k wk d w h
end Go.Proofs.YthhjgndaiimgjaaGreatDoor
end
/-! The walks of the reference's CheckOn and FindOf. -/
section
set_option linter.unusedVariables false
set_option linter.unusedSimpArgs false
namespace Go.Proofs.YthhjgndaiimgjaaGreatDoor
open Go.RowKit Gno

theorem onE_no1 {k w d : Int} (h : ¬ (k = 1 ∨ k = 2 ∨ k = 3)) : onE k w d = 8 := by unfold onE; rw [if_neg (by omega), if_neg (by omega), if_neg (by omega)]

set_option maxHeartbeats 1000000 in
theorem checkOn_any (k wk d : Int) (w : World) :
    Calls Tryz.prog 58 #[.agg #[.int .i64 k, .int .i64 wk, .int .i64 d]] w fun e w' => e = .returned (.int .i64 (onE k wk d)) ∧ Below w.heap.size w w' := by
  by_cases hk : k = 1 ∨ k = 2 ∨ k = 3
  · have hw : withinB k 1 3 = true := (withinB_iff _ _ _).2 (by omega)
    have hcases : ∀ b : Bool, b = true ∨ b = false := by decide
    rcases hcases (withinB wk 0 6) with h6 | h6
    · have h6' := (withinB_iff _ _ _).1 h6
      rcases hcases (withinB d 1 31) with h31 | h31
      · have h31' := (withinB_iff _ _ _).1 h31
        rcases hk with rfl | rfl | rfl
        all_goals
          go_enter Tryz.func58, Tryz.ntmps58
          go_wp2_with (go_at_call 16; refine (within_any _ _ _ _).mono ?_; rintro e w' ⟨rfl, rfl⟩)
          all_goals
            go_ret
            exact ⟨ret_int (by unfold onE; simp_all; try omega), (Below.refl _ _).alloc (Nat.le_refl _) _⟩
      · have h31' := (withinB_no _ _ _).1 h31
        rcases hk with rfl | rfl | rfl
        all_goals
          go_enter Tryz.func58, Tryz.ntmps58
          go_wp2_with (go_at_call 16; refine (within_any _ _ _ _).mono ?_; rintro e w' ⟨rfl, rfl⟩)
          all_goals
            go_ret
            exact ⟨ret_int (by unfold onE; simp_all; try omega), (Below.refl _ _).alloc (Nat.le_refl _) _⟩
    · have h6' := (withinB_no _ _ _).1 h6
      rcases hk with rfl | rfl | rfl
      all_goals
        go_enter Tryz.func58, Tryz.ntmps58
        go_wp2_with (go_at_call 16; refine (within_any _ _ _ _).mono ?_; rintro e w' ⟨rfl, rfl⟩)
        all_goals
          go_ret
          exact ⟨ret_int (by unfold onE; simp; try omega), (Below.refl _ _).alloc (Nat.le_refl _) _⟩
  · have hw : withinB k 1 3 = false := (withinB_no _ _ _).2 (by omega)
    have HE := Lib.hid (onE_no1 (w := wk) (d := d) hk)
    clear hk
    go_enter Tryz.func58, Tryz.ntmps58
    go_wp2_with (go_at_call 16; refine (within_any _ _ _ _).mono ?_; rintro e w' ⟨rfl, rfl⟩)
    go_ret
    exact ⟨ret_int (by rw [HE.out]), (Below.refl _ _).alloc (Nat.le_refl _) _⟩
end Go.Proofs.YthhjgndaiimgjaaGreatDoor
end
/-! The walk of the reference's FindOf. -/
section
set_option linter.unusedVariables false
set_option linter.unusedSimpArgs false
namespace Go.Proofs.YthhjgndaiimgjaaGreatDoor
open Go.RowKit Gno

/-- a box of three cells, seen in a later world. -/
theorem box_cells {w w3 : World} {a b c : Value} {T : TypeId} (hb : Below (w.heap.size + 1) (w.alloc (.cells #[a, b, c] T)) w3) :
    w3.cell? ⟨w.heap.size, 0, none⟩ = some a ∧ w3.cell? ⟨w.heap.size, 1, none⟩ = some b ∧ w3.cell? ⟨w.heap.size, 2, none⟩ = some c := by
  refine ⟨(hb.cell (p := ⟨w.heap.size, 0, none⟩) (by simp)).trans (by simp), (hb.cell (p := ⟨w.heap.size, 1, none⟩) (by simp)).trans (by simp), (hb.cell (p := ⟨w.heap.size, 2, none⟩) (by simp)).trans (by simp)⟩
theorem box_le {w w3 : World} {o : Obj} (hb : Below (w.heap.size + 1) (w.alloc o) w3) : w.heap.size + 1 ≤ w3.heap.size := by
  have := hb.size
  simp at this
  omega
theorem box_below {w w3 : World} {o : Obj} (hb : Below (w.heap.size + 1) (w.alloc o) w3) : Below w.heap.size w w3 :=
  ((Below.refl _ _).alloc (Nat.le_refl _) _).trans (hb.mono (by omega))

theorem findOf_bad (y m k wk d : Int) (w : World) (h : onE k wk d ≠ 0) :
    Calls Tryz.prog 59 #[.int .i64 y, .int .i64 m, .agg #[.int .i64 k, .int .i64 wk, .int .i64 d]] w fun e w' => e = .returned (.tuple #[.int .i64 0, .int .i64 (onE k wk d)]) ∧ Below w.heap.size w w' := by
  have hb : (onE k wk d != 0) = true := by simpa using h
  clear h
  go_enter Tryz.func59, Tryz.ntmps59
  go_wp2_with (go_at_call 58; refine (checkOn_any _ _ _ _).mono ?_; rintro e w1 ⟨rfl, hb1⟩)
  go_ret2
  exact ⟨rfl, ((Below.refl _ _).alloc (Nat.le_refl _) _).trans (hb1.mono (by simp))⟩

theorem findOf_none (y m k wk d : Int) (w : World) (h : onE k wk d = 0) (hy : isYM y m = false) :
    Calls Tryz.prog 59 #[.int .i64 y, .int .i64 m, .agg #[.int .i64 k, .int .i64 wk, .int .i64 d]] w fun e w' => e = .returned (.tuple #[.int .i64 0, .int .i64 3]) ∧ Below w.heap.size w w' := by
  have hb : (onE k wk d != 0) = false := by simpa using h
  clear h
  have hcases : ∀ b : Bool, b = true ∨ b = false := by decide
  rcases hcases (isYear y) with h1 | h1
  · have h2 : isMonth m = false := by simpa [isYM, h1] using hy
    clear hy
    go_enter Tryz.func59, Tryz.ntmps59
    go_wp2_with (first
      | (go_at_call 58; refine (checkOn_any _ _ _ _).mono ?_; rintro e w1 ⟨rfl, hb1⟩)
      | (go_at_call 56; refine (isYearR_any _ _).mono ?_; rintro e w' ⟨rfl, rfl⟩)
      | (go_at_call 57; refine (isMonthR_any _ _).mono ?_; rintro e w' ⟨rfl, rfl⟩))
    go_ret2
    exact ⟨rfl, ((Below.refl _ _).alloc (Nat.le_refl _) _).trans (hb1.mono (by simp))⟩
  · clear hy
    go_enter Tryz.func59, Tryz.ntmps59
    go_wp2_with (first
      | (go_at_call 58; refine (checkOn_any _ _ _ _).mono ?_; rintro e w1 ⟨rfl, hb1⟩)
      | (go_at_call 56; refine (isYearR_any _ _).mono ?_; rintro e w' ⟨rfl, rfl⟩)
      | (go_at_call 57; refine (isMonthR_any _ _).mono ?_; rintro e w' ⟨rfl, rfl⟩))
    go_ret2
    exact ⟨rfl, ((Below.refl _ _).alloc (Nat.le_refl _) _).trans (hb1.mono (by simp))⟩

/-- the days of a right month. -/
theorem daysOf_at (y m s : Int) (hs : s = size y m) (hy : isYM y m = true) (j : Int) (h1 : 1 ≤ j) (h2 : j ≤ s) (w : World) :
    Calls Tryz.prog 89 #[.int .i64 y, .int .i64 m, .int .i64 j] w fun e w' => e = .returned (.tuple #[.int .i64 (num y m j), .int .i64 0]) ∧ Below w.heap.size w w' := by
  have h := (isYM_iff y m).1 hy
  exact daysOf_yes y m j w ((isDate_iff _ _ _).2 ⟨h.1, h.2, h1, by omega⟩)
theorem num_in (y m s : Int) (hs : s = size y m) (hy : isYM y m = true) (j : Int) (h1 : 1 ≤ j) (h2 : j ≤ s) : 0 ≤ num y m j ∧ num y m j ≤ 21914 := by
  have h := (isYM_iff y m).1 hy
  exact (isDay_iff _).1 (day_of y m j ((isDate_iff _ _ _).2 ⟨h.1, h.2, h1, by omega⟩)).1

set_option maxRecDepth 100000 in
set_option maxHeartbeats 2000000 in
theorem findOf_1 (y m d : Int) (w : World) (h : onE 1 0 d = 0) (hy : isYM y m = true) (d1 : 1 ≤ d) (d2 : d ≤ 31) :
    Calls Tryz.prog 59 #[.int .i64 y, .int .i64 m, .agg #[.int .i64 1, .int .i64 0, .int .i64 d]] w fun e w' =>
      e = .returned (.tuple #[.int .i64 (findN y m 1 0 d), .int .i64 (findE y m 1 0 d)]) ∧ Below w.heap.size w w' := by
  have hb : (onE 1 0 d != 0) = false := by simpa using h
  obtain ⟨⟨y1, y2⟩, m1, m2⟩ := (isYM_iff y m).1 hy
  have hyb := (isYear_iff y).2 ⟨y1, y2⟩
  have hmb := (isMonth_iff m).2 ⟨m1, m2⟩
  have hs := size_bd y m m1 m2
  have hlt := find_lt y m 1 0 d h hy
  have hge := find_ge y m 1 0 d h hy
  have MD := Lib.hid (fun w => monthDays_any y m w y1 y2 m1 m2)
  obtain ⟨c, hce⟩ : ∃ c, c = pick1 y m := ⟨_, rfl⟩
  obtain ⟨s, hse⟩ : ∃ s, s = size y m := ⟨_, rfl⟩
  have DO := Lib.hid (daysOf_at y m s hse hy)
  have NI := Lib.hid (num_in y m s hse hy)
  have WP : Hid (∀ j, (num y m j + 4) % 7 = (c + j) % 7) := Lib.hid (fun j => by rw [hce]; exact weekOf_pick y m j)
  have hR : findR y m 1 0 d = pickR 1 0 d c s := by unfold findR; rw [hce, hse]
  rw [← hse] at MD hs
  rw [hR, ← hse] at hlt hge
  have HLT := Lib.hid hlt
  have HGE := Lib.hid hge
  obtain ⟨s1, s2⟩ := hs
  clear h hy hce hse hR y1 y2 m1 m2 hlt hge
  go_enter Tryz.func59, Tryz.ntmps59
  go_wp2_with (first
    | (go_at_call 58; refine (checkOn_any _ _ _ _).mono ?_; rintro e w1 ⟨rfl, hb1⟩)
    | (go_at_call 56; refine (isYearR_any _ _).mono ?_; rintro e w' ⟨rfl, rfl⟩)
    | (go_at_call 57; refine (isMonthR_any _ _).mono ?_; rintro e w' ⟨rfl, rfl⟩))
  simp only [World.size_alloc] at hb1
  go_loopw [9, 10] (fun u v wr => ∃ f j : Int, 1 ≤ j ∧ j ≤ s + 1 ∧ v = .int .i64 j ∧ u = .int .i64 f ∧ acc1 d j f ∧ Below (w.heap.size + 1) (w.alloc (.cells #[.int .i64 1, .int .i64 0, .int .i64 d] 51)) wr) (fun _ v _ => (s + 1 - intOf v).toNat)
  case atStart => exact ⟨0, 1, by omega, by omega, rfl, rfl, (by unfold acc1; rw [if_neg (by omega)]), hb1⟩
  case round =>
    obtain ⟨f, j, j1, j2, rfl, rfl, hacc, hb2⟩ := hrel
    have HA := Lib.hid hacc
    clear hacc hb1
    by_cases hj : j ≤ s
    · by_cases he : j = d
      · have eb : (j == d) = true := by simp [he]
        have HE := Lib.hid he
        clear he
        go_wp2_with (first
          | (go_at_call 88; (with_reducible refine (MD.out _).mono ?_); rintro e w2 ⟨rfl, hb3⟩; have hb4 := hb2.trans (hb3.mono (box_le hb2)); clear hb2 hb3)
          | (go_at_call 89; (with_reducible refine (DO.out j j1 hj _).mono ?_); rintro e w3 ⟨rfl, hb5⟩; have hb6 := hb4.trans (hb5.mono (box_le hb4)); clear hb4 hb5; obtain ⟨c0, c1, c2⟩ := box_cells hb6))
        go_roundw
        case rel => exact ⟨j, j + 1, by omega, by omega, rfl, rfl, acc1_set HE.out, hb6⟩
        case measure => simp [intOf]; omega
      · have eb : (j == d) = false := by simpa using he
        go_wp2_with (first
          | (go_at_call 88; (with_reducible refine (MD.out _).mono ?_); rintro e w2 ⟨rfl, hb3⟩; have hb4 := hb2.trans (hb3.mono (box_le hb2)); clear hb2 hb3)
          | (go_at_call 89; (with_reducible refine (DO.out j j1 hj _).mono ?_); rintro e w3 ⟨rfl, hb5⟩; have hb6 := hb4.trans (hb5.mono (box_le hb4)); clear hb4 hb5; obtain ⟨c0, c1, c2⟩ := box_cells hb6))
        go_roundw
        case rel => exact ⟨f, j + 1, by omega, by omega, rfl, rfl, acc1_keep HA.out he, hb6⟩
        case measure => simp [intOf]; omega
    · have hje : j = s + 1 := by omega
      have hf := HA.out
      unfold acc1 at hf
      rw [hje] at hf
      by_cases hl : s < d
      · have hf0 : f = 0 := by rw [hf, if_neg (by omega)]
        obtain ⟨e1, e2⟩ := HLT.out (by have := exact_is 0 d c s; omega)
        have E1 := Lib.hid e1
        have E2 := Lib.hid e2
        subst hf0
        clear e1 e2 hje hf
        go_wp2_with (go_at_call 88; (with_reducible refine (MD.out _).mono ?_); rintro e w2 ⟨rfl, hb3⟩; have hb4 := hb2.trans (hb3.mono (box_le hb2)); clear hb2 hb3)
        go_ret2
        exact ⟨ret_ii (by rw [E1.out]) (by rw [E2.out]), box_below hb4⟩
      · skip
        have hf0 : f = d := by rw [hf, if_pos (by omega)]
        obtain ⟨e1, e2⟩ := HGE.out (by have := exact_is 0 d c s; omega)
        rw [exact_is] at e1
        have fb : (f == 0) = false := by simp; omega
        have E1 := Lib.hid e1
        have E2 := Lib.hid e2
        have HF := Lib.hid hf0
        clear hf0
        clear e1 e2 hje hf
        go_wp2_with (go_at_call 88; (with_reducible refine (MD.out _).mono ?_); rintro e w2 ⟨rfl, hb3⟩; have hb4 := hb2.trans (hb3.mono (box_le hb2)); clear hb2 hb3)
        go_ret2
        exact ⟨ret_ii (by rw [E1.out, HF.out]) (by rw [E2.out]), box_below hb4⟩

set_option maxRecDepth 100000 in
set_option maxHeartbeats 2000000 in
theorem findOf_2 (y m wk : Int) (w : World) (h : onE 2 wk 0 = 0) (hy : isYM y m = true) (k1 : 0 ≤ wk) (k2 : wk ≤ 6) :
    Calls Tryz.prog 59 #[.int .i64 y, .int .i64 m, .agg #[.int .i64 2, .int .i64 wk, .int .i64 0]] w fun e w' =>
      e = .returned (.tuple #[.int .i64 (findN y m 2 wk 0), .int .i64 (findE y m 2 wk 0)]) ∧ Below w.heap.size w w' := by
  have hb : (onE 2 wk 0 != 0) = false := by simpa using h
  obtain ⟨⟨y1, y2⟩, m1, m2⟩ := (isYM_iff y m).1 hy
  have hyb := (isYear_iff y).2 ⟨y1, y2⟩
  have hmb := (isMonth_iff m).2 ⟨m1, m2⟩
  have hs := size_bd y m m1 m2
  have hlt := find_lt y m 2 wk 0 h hy
  have hge := find_ge y m 2 wk 0 h hy
  have MD := Lib.hid (fun w => monthDays_any y m w y1 y2 m1 m2)
  obtain ⟨c, hce⟩ : ∃ c, c = pick1 y m := ⟨_, rfl⟩
  obtain ⟨s, hse⟩ : ∃ s, s = size y m := ⟨_, rfl⟩
  have DO := Lib.hid (daysOf_at y m s hse hy)
  have NI := Lib.hid (num_in y m s hse hy)
  have WP : Hid (∀ j, (num y m j + 4) % 7 = (c + j) % 7) := Lib.hid (fun j => by rw [hce]; exact weekOf_pick y m j)
  have hR : findR y m 2 wk 0 = pickR 2 wk 0 c s := by unfold findR; rw [hce, hse]
  rw [← hse] at MD hs
  rw [hR, ← hse] at hlt hge
  have HLT := Lib.hid hlt
  have HGE := Lib.hid hge
  obtain ⟨s1, s2⟩ := hs
  clear h hy hce hse hR y1 y2 m1 m2 hlt hge
  go_enter Tryz.func59, Tryz.ntmps59
  go_wp2_with (first
    | (go_at_call 58; refine (checkOn_any _ _ _ _).mono ?_; rintro e w1 ⟨rfl, hb1⟩)
    | (go_at_call 56; refine (isYearR_any _ _).mono ?_; rintro e w' ⟨rfl, rfl⟩)
    | (go_at_call 57; refine (isMonthR_any _ _).mono ?_; rintro e w' ⟨rfl, rfl⟩))
  simp only [World.size_alloc] at hb1
  go_loopw [9, 10] (fun u v wr => ∃ f j : Int, 1 ≤ j ∧ j ≤ s + 1 ∧ v = .int .i64 j ∧ u = .int .i64 f ∧ acc2 (pickR 2 wk 0 c s) j f ∧ Below (w.heap.size + 1) (w.alloc (.cells #[.int .i64 2, .int .i64 wk, .int .i64 0] 51)) wr) (fun _ v _ => (s + 1 - intOf v).toNat)
  case atStart => exact ⟨0, 1, by omega, by omega, rfl, rfl, ⟨by omega, fun h => absurd h (by have := last_is wk 0 c s k1 k2; omega)⟩, hb1⟩
  case round =>
    obtain ⟨f, j, j1, j2, rfl, rfl, hacc, hb2⟩ := hrel
    have HA := Lib.hid hacc
    clear hacc hb1
    by_cases hj : j ≤ s
    · obtain ⟨n1, n2⟩ := NI.out j j1 hj
      have wp := WP.out j
      by_cases he : (num y m j + 4) % 7 = wk
      · have eb : ((num y m j + 4) % 7 == wk) = true := by simp [he]
        have HE := Lib.hid (show (c + j) % 7 = wk by rw [← wp]; exact he)
        clear he wp
        go_wp2_with (first
          | (go_at_call 88; (with_reducible refine (MD.out _).mono ?_); rintro e w2 ⟨rfl, hb3⟩; have hb4 := hb2.trans (hb3.mono (box_le hb2)); clear hb2 hb3)
          | (go_at_call 89; (with_reducible refine (DO.out j j1 hj _).mono ?_); rintro e w3 ⟨rfl, hb5⟩; have hb6 := hb4.trans (hb5.mono (box_le hb4)); clear hb4 hb5; obtain ⟨c0, c1, c2⟩ := box_cells hb6))
        go_quiet ((go_at_call 90; exact Calls.quiet_of_same ((weekOf_any _ _ n1 n2).mono fun _ _ h => ⟨h.1, h.2.symm⟩)))
        go_wp2
        go_roundw
        case rel => exact ⟨j, j + 1, by omega, by omega, rfl, rfl, acc2_set k1 k2 (by omega) hj HE.out, below_drewN hb6 _⟩
        case measure => simp [intOf]; omega
      · have eb : ((num y m j + 4) % 7 == wk) = false := by simpa using he
        have HE := Lib.hid (show ¬ (c + j) % 7 = wk by rw [← wp]; exact he)
        clear he wp
        go_wp2_with (first
          | (go_at_call 88; (with_reducible refine (MD.out _).mono ?_); rintro e w2 ⟨rfl, hb3⟩; have hb4 := hb2.trans (hb3.mono (box_le hb2)); clear hb2 hb3)
          | (go_at_call 89; (with_reducible refine (DO.out j j1 hj _).mono ?_); rintro e w3 ⟨rfl, hb5⟩; have hb6 := hb4.trans (hb5.mono (box_le hb4)); clear hb4 hb5; obtain ⟨c0, c1, c2⟩ := box_cells hb6))
        go_quiet ((go_at_call 90; exact Calls.quiet_of_same ((weekOf_any _ _ n1 n2).mono fun _ _ h => ⟨h.1, h.2.symm⟩)))
        go_wp2
        go_roundw
        case rel => exact ⟨f, j + 1, by omega, by omega, rfl, rfl, acc2_keep k1 k2 HA.out HE.out, below_drewN hb6 _⟩
        case measure => simp [intOf]; omega
    · have hje : j = s + 1 := by omega
      have hl := last_is wk 0 c s k1 k2
      have hf0 : f = pickR 2 wk 0 c s := HA.out.2 (by omega)
      obtain ⟨e1, e2⟩ := HGE.out (by omega)
      have fb : (f == 0) = false := by simp; omega
      have E1 := Lib.hid e1
      have E2 := Lib.hid e2
      have HF := Lib.hid hf0
      clear hf0
      clear e1 e2 hje hl
      go_wp2_with (go_at_call 88; (with_reducible refine (MD.out _).mono ?_); rintro e w2 ⟨rfl, hb3⟩; have hb4 := hb2.trans (hb3.mono (box_le hb2)); clear hb2 hb3)
      go_ret2
      exact ⟨ret_ii (by rw [E1.out, HF.out]) (by rw [E2.out]), box_below hb4⟩

set_option maxRecDepth 100000 in
set_option maxHeartbeats 2000000 in
theorem findOf_3 (y m wk d : Int) (w : World) (h : onE 3 wk d = 0) (hy : isYM y m = true) (k1 : 0 ≤ wk) (k2 : wk ≤ 6) (d1 : 1 ≤ d) (d2 : d ≤ 31) :
    Calls Tryz.prog 59 #[.int .i64 y, .int .i64 m, .agg #[.int .i64 3, .int .i64 wk, .int .i64 d]] w fun e w' =>
      e = .returned (.tuple #[.int .i64 (findN y m 3 wk d), .int .i64 (findE y m 3 wk d)]) ∧ Below w.heap.size w w' := by
  have hb : (onE 3 wk d != 0) = false := by simpa using h
  obtain ⟨⟨y1, y2⟩, m1, m2⟩ := (isYM_iff y m).1 hy
  have hyb := (isYear_iff y).2 ⟨y1, y2⟩
  have hmb := (isMonth_iff m).2 ⟨m1, m2⟩
  have hs := size_bd y m m1 m2
  have hlt := find_lt y m 3 wk d h hy
  have hge := find_ge y m 3 wk d h hy
  have MD := Lib.hid (fun w => monthDays_any y m w y1 y2 m1 m2)
  obtain ⟨c, hce⟩ : ∃ c, c = pick1 y m := ⟨_, rfl⟩
  obtain ⟨s, hse⟩ : ∃ s, s = size y m := ⟨_, rfl⟩
  have DO := Lib.hid (daysOf_at y m s hse hy)
  have NI := Lib.hid (num_in y m s hse hy)
  have WP : Hid (∀ j, (num y m j + 4) % 7 = (c + j) % 7) := Lib.hid (fun j => by rw [hce]; exact weekOf_pick y m j)
  have hR : findR y m 3 wk d = pickR 3 wk d c s := by unfold findR; rw [hce, hse]
  rw [← hse] at MD hs
  rw [hR, ← hse] at hlt hge
  have HLT := Lib.hid hlt
  have HGE := Lib.hid hge
  obtain ⟨s1, s2⟩ := hs
  clear h hy hce hse hR y1 y2 m1 m2 hlt hge
  go_enter Tryz.func59, Tryz.ntmps59
  go_wp2_with (first
    | (go_at_call 58; refine (checkOn_any _ _ _ _).mono ?_; rintro e w1 ⟨rfl, hb1⟩)
    | (go_at_call 56; refine (isYearR_any _ _).mono ?_; rintro e w' ⟨rfl, rfl⟩)
    | (go_at_call 57; refine (isMonthR_any _ _).mono ?_; rintro e w' ⟨rfl, rfl⟩))
  simp only [World.size_alloc] at hb1
  go_loopw [9, 10] (fun u v wr => ∃ f j : Int, 1 ≤ j ∧ j ≤ s + 1 ∧ v = .int .i64 j ∧ u = .int .i64 f ∧ acc3 (pickR 3 wk d c s) j f ∧ Below (w.heap.size + 1) (w.alloc (.cells #[.int .i64 3, .int .i64 wk, .int .i64 d] 51)) wr) (fun _ v _ => (s + 1 - intOf v).toNat)
  case atStart => exact ⟨0, 1, by omega, by omega, rfl, rfl, (by unfold acc3; rw [if_neg (by have := after_is wk d c s k1 k2; omega)]), hb1⟩
  case round =>
    obtain ⟨f, j, j1, j2, rfl, rfl, hacc, hb2⟩ := hrel
    have HA := Lib.hid hacc
    clear hacc hb1
    by_cases hj : j ≤ s
    · obtain ⟨n1, n2⟩ := NI.out j j1 hj
      have wp := WP.out j
      by_cases he : (num y m j + 4) % 7 = wk
      · have eb : ((num y m j + 4) % 7 == wk) = true := by simp [he]
        have HE := Lib.hid (show (c + j) % 7 = wk by rw [← wp]; exact he)
        clear he wp
        by_cases hd : d ≤ j
        · have db : decide (d ≤ j) = true := by simpa using hd
          by_cases hf : f = 0
          · have fb : (f == 0) = true := by simp [hf]
            have HF := Lib.hid hf
            clear hf
            go_wp2_with (first
              | (go_at_call 88; (with_reducible refine (MD.out _).mono ?_); rintro e w2 ⟨rfl, hb3⟩; have hb4 := hb2.trans (hb3.mono (box_le hb2)); clear hb2 hb3)
              | (go_at_call 89; (with_reducible refine (DO.out j j1 hj _).mono ?_); rintro e w3 ⟨rfl, hb5⟩; have hb6 := hb4.trans (hb5.mono (box_le hb4)); clear hb4 hb5; obtain ⟨c0, c1, c2⟩ := box_cells hb6))
            go_quiet ((go_at_call 90; exact Calls.quiet_of_same ((weekOf_any _ _ n1 n2).mono fun _ _ h => ⟨h.1, h.2.symm⟩)))
            go_wp2
            go_roundw
            case rel => exact ⟨j, j + 1, by omega, by omega, rfl, rfl, acc3_set k1 k2 d1 HA.out HE.out hd HF.out, below_drewN hb6 _⟩
            case measure => simp [intOf]; omega
          · have fb : (f == 0) = false := by simpa using hf
            have HF := Lib.hid (show ¬ ((c + j) % 7 = wk ∧ d ≤ j ∧ f = 0) from fun h => hf h.2.2)
            clear hf
            go_wp2_with (first
              | (go_at_call 88; (with_reducible refine (MD.out _).mono ?_); rintro e w2 ⟨rfl, hb3⟩; have hb4 := hb2.trans (hb3.mono (box_le hb2)); clear hb2 hb3)
              | (go_at_call 89; (with_reducible refine (DO.out j j1 hj _).mono ?_); rintro e w3 ⟨rfl, hb5⟩; have hb6 := hb4.trans (hb5.mono (box_le hb4)); clear hb4 hb5; obtain ⟨c0, c1, c2⟩ := box_cells hb6))
            go_quiet ((go_at_call 90; exact Calls.quiet_of_same ((weekOf_any _ _ n1 n2).mono fun _ _ h => ⟨h.1, h.2.symm⟩)))
            go_wp2
            go_roundw
            case rel => exact ⟨f, j + 1, by omega, by omega, rfl, rfl, acc3_keep k1 k2 HA.out HF.out, below_drewN hb6 _⟩
            case measure => simp [intOf]; omega
        · have db : decide (d ≤ j) = false := by simpa using hd
          have HF := Lib.hid (show ¬ ((c + j) % 7 = wk ∧ d ≤ j ∧ f = 0) from fun h => hd h.2.1)
          go_wp2_with (first
            | (go_at_call 88; (with_reducible refine (MD.out _).mono ?_); rintro e w2 ⟨rfl, hb3⟩; have hb4 := hb2.trans (hb3.mono (box_le hb2)); clear hb2 hb3)
            | (go_at_call 89; (with_reducible refine (DO.out j j1 hj _).mono ?_); rintro e w3 ⟨rfl, hb5⟩; have hb6 := hb4.trans (hb5.mono (box_le hb4)); clear hb4 hb5; obtain ⟨c0, c1, c2⟩ := box_cells hb6))
          go_quiet ((go_at_call 90; exact Calls.quiet_of_same ((weekOf_any _ _ n1 n2).mono fun _ _ h => ⟨h.1, h.2.symm⟩)))
          go_wp2
          go_roundw
          case rel => exact ⟨f, j + 1, by omega, by omega, rfl, rfl, acc3_keep k1 k2 HA.out HF.out, below_drewN hb6 _⟩
          case measure => simp [intOf]; omega
      · have eb : ((num y m j + 4) % 7 == wk) = false := by simpa using he
        have HF := Lib.hid (show ¬ ((c + j) % 7 = wk ∧ d ≤ j ∧ f = 0) from fun h => he (by rw [wp]; exact h.1))
        clear he wp
        go_wp2_with (first
          | (go_at_call 88; (with_reducible refine (MD.out _).mono ?_); rintro e w2 ⟨rfl, hb3⟩; have hb4 := hb2.trans (hb3.mono (box_le hb2)); clear hb2 hb3)
          | (go_at_call 89; (with_reducible refine (DO.out j j1 hj _).mono ?_); rintro e w3 ⟨rfl, hb5⟩; have hb6 := hb4.trans (hb5.mono (box_le hb4)); clear hb4 hb5; obtain ⟨c0, c1, c2⟩ := box_cells hb6))
        go_quiet ((go_at_call 90; exact Calls.quiet_of_same ((weekOf_any _ _ n1 n2).mono fun _ _ h => ⟨h.1, h.2.symm⟩)))
        go_wp2
        go_roundw
        case rel => exact ⟨f, j + 1, by omega, by omega, rfl, rfl, acc3_keep k1 k2 HA.out HF.out, below_drewN hb6 _⟩
        case measure => simp [intOf]; omega
    · have hje : j = s + 1 := by omega
      have hli := after_is wk d c s k1 k2
      have hf := HA.out
      unfold acc3 at hf
      rw [hje] at hf
      by_cases hl : s < pickR 3 wk d c s
      · have hf0 : f = 0 := by rw [hf, if_neg (by omega)]
        obtain ⟨e1, e2⟩ := HLT.out (by omega)
        have E1 := Lib.hid e1
        have E2 := Lib.hid e2
        subst hf0
        clear e1 e2 hje hf hli
        go_wp2_with (go_at_call 88; (with_reducible refine (MD.out _).mono ?_); rintro e w2 ⟨rfl, hb3⟩; have hb4 := hb2.trans (hb3.mono (box_le hb2)); clear hb2 hb3)
        go_ret2
        exact ⟨ret_ii (by rw [E1.out]) (by rw [E2.out]), box_below hb4⟩
      · skip
        have hf0 : f = pickR 3 wk d c s := by rw [hf, if_pos (by omega)]
        obtain ⟨e1, e2⟩ := HGE.out (by omega)
        have fb : (f == 0) = false := by simp; omega
        have E1 := Lib.hid e1
        have E2 := Lib.hid e2
        have HF := Lib.hid hf0
        clear hf0
        clear e1 e2 hje hf hli
        go_wp2_with (go_at_call 88; (with_reducible refine (MD.out _).mono ?_); rintro e w2 ⟨rfl, hb3⟩; have hb4 := hb2.trans (hb3.mono (box_le hb2)); clear hb2 hb3)
        go_ret2
        exact ⟨ret_ii (by rw [E1.out, HF.out]) (by rw [E2.out]), box_below hb4⟩

theorem findOf_any (y m k wk d : Int) (w : World) :
    Calls Tryz.prog 59 #[.int .i64 y, .int .i64 m, .agg #[.int .i64 k, .int .i64 wk, .int .i64 d]] w fun e w' =>
      e = .returned (.tuple #[.int .i64 (findN y m k wk d), .int .i64 (findE y m k wk d)]) ∧ Below w.heap.size w w' := by
  by_cases h : onE k wk d = 0
  · cases hy : isYM y m
    · rw [show findN y m k wk d = 0 by simp [findN, h, hy], show findE y m k wk d = 3 by simp [findE, h, hy]]
      exact findOf_none y m k wk d w h hy
    · rcases onE_ok h with ⟨rfl, rfl, d1, d2⟩ | ⟨rfl, ⟨k1, k2⟩, rfl⟩ | ⟨rfl, ⟨k1, k2⟩, d1, d2⟩
      · exact findOf_1 y m d w h hy d1 d2
      · exact findOf_2 y m wk w h hy k1 k2
      · exact findOf_3 y m wk d w h hy k1 k2 d1 d2
  · rw [show findN y m k wk d = 0 by simp [findN, h], show findE y m k wk d = onE k wk d by simp [findE, h]]
    exact findOf_bad y m k wk d w h
end Go.Proofs.YthhjgndaiimgjaaGreatDoor
end
/-! What must be in any case of days of months. -/
section
set_option linter.unusedVariables false
set_option linter.unusedSimpArgs false
namespace Go.Proofs.YthhjgndaiimgjaaGreatDoor
open Go.RowKit Gno
end Go.Proofs.YthhjgndaiimgjaaGreatDoor
end
/-! The reference's digits. -/
section
set_option linter.unusedVariables false
set_option linter.unusedSimpArgs false
set_option maxRecDepth 100000
namespace Gno
open Go
end Gno
namespace Go.Proofs.YthhjgndaiimgjaaGreatDoor
open Go.RowKit Gno
theorem retO_str {a b : ByteArray} (h : a = b) : Ending.returned (.string a) = .returned (.string b) := by rw [h]
theorem withinO_any (n lo hi : Int) (w : World) :
    Calls Tryz.prog 16 #[.int .i64 n, .int .i64 lo, .int .i64 hi] w fun e w' => e = .returned (.bool (decide (lo ≤ n ∧ n ≤ hi))) ∧ w = w' := by
  by_cases h1 : lo ≤ n
  · by_cases h2 : n ≤ hi
    · have HX : decide (lo ≤ n ∧ n ≤ hi) = true := by simp [h1, h2]
      rw [HX]
      clear HX
      go_enter Tryz.func16, Tryz.ntmps16
      go_wp2
      go_ret
      exact ⟨by simp [h2], rfl⟩
    · have HX : decide (lo ≤ n ∧ n ≤ hi) = false := by simp [h2]
      rw [HX]
      clear HX
      go_enter Tryz.func16, Tryz.ntmps16
      go_wp2
      go_ret
      exact ⟨by simp [h2], rfl⟩
  · have HX : decide (lo ≤ n ∧ n ≤ hi) = false := by simp [h1]
    rw [HX]
    clear HX
    go_enter Tryz.func16, Tryz.ntmps16
    go_wp2
    go_ret
    exact ⟨by simp, rfl⟩
/-- string([]byte{byte('0' + n%10)}) -/
theorem last_digit (n : Nat) (w : World) : (convert 41 9 (.slice (some ⟨w.heap.size, 0, none⟩) 1 1)).run Tryz.prog (w.alloc (.cells #[.int .u8 (48 + (n : Int) % 10)] 5)) = .ok (.string (B [UInt8.ofNat (48 + n % 10)])) (w.alloc (.cells #[.int .u8 (48 + (n : Int) % 10)] 5)) :=
  run_convert_bytes_back (w.alloc (.cells #[.int .u8 (48 + (n : Int) % 10)] 5)) 41 9 5 ⟨w.heap.size, 0, none⟩ 1 [UInt8.ofNat (48 + n % 10)] Tryz.underlying41 Tryz.underlying5 Tryz.underlying9 (fun j hj => by
    have : j = 0 := by simpa using hj
    subst this
    have e : (UInt8.ofNat (48 + n % 10)).toNat = 48 + n % 10 := by simp; omega
    have h := cell_one_new w (.int .u8 (48 + (n : Int) % 10)) 5
    show (w.alloc (.cells #[.int .u8 (48 + (n : Int) % 10)] 5)).cell? ⟨w.heap.size, 0 + 0, none⟩ = some (.int .u8 (((UInt8.ofNat (48 + n % 10)).toNat : Nat) : Int))
    rw [e]
    have e2 : (((48 + n % 10 : Nat)) : Int) = 48 + (n : Int) % 10 := by omega
    rw [e2]
    exact h 0 _ rfl)
theorem last_hid (n : Nat) (w : World) : ∃ s, s = B [UInt8.ofNat (48 + n % 10)] ∧ (convert 41 9 (.slice (some ⟨w.heap.size, 0, none⟩) 1 1)).run Tryz.prog (w.alloc (.cells #[.int .u8 (48 + (n : Int) % 10)] 5)) = .ok (.string s) (w.alloc (.cells #[.int .u8 (48 + (n : Int) % 10)] 5)) := ⟨_, rfl, last_digit n w⟩
end Go.Proofs.YthhjgndaiimgjaaGreatDoor
end
/-! The reference's Digits, at every number that data may hold. -/
section
set_option linter.unusedVariables false
set_option linter.unusedSimpArgs false
set_option maxRecDepth 100000
namespace Gno
open Go
theorem dig_app {n : Nat} (h1 : ¬ n < 10) : B (Lib.decDigits (n / 10)) ++ B [UInt8.ofNat (48 + n % 10)] = B (Lib.decDigits n) := by
  rw [B_app]
  conv => rhs; rw [Lib.decDigits, dif_neg h1]
theorem dig_size (n : Nat) (h : n < 1000000000000000000) : (B (Lib.decDigits n)).size ≤ 20 := by
  rw [B_size, Lib.decDigits_length]
  exact Lib.nDigits_le20 n (by omega)
end Gno
namespace Go.Proofs.YthhjgndaiimgjaaGreatDoor
open Go.RowKit Gno
set_option maxHeartbeats 4000000 in
theorem digitsN_any (n : Nat) : n < 1000000000000000000 → ∀ w : World, Calls Tryz.prog 62 #[.int .i64 n] w fun e w' => e = .returned (.string (B (Lib.decDigits n))) ∧ Below w.heap.size w w' := by
  induction n using Nat.strongRecOn with
  | _ n ih =>
    intro hn w
    obtain ⟨s, hs, HC⟩ := last_hid n w
    have HB : Hid (Below w.heap.size w (w.alloc (.cells #[.int .u8 (48 + (n : Int) % 10)] 5))) := Lib.hid ((Below.refl _ w).alloc (Nat.le_refl _) _)
    by_cases h1 : n < 10
    · have HX : Hid (s = B (Lib.decDigits n)) := Lib.hid (by rw [hs, Lib.decDigits_one h1, Nat.mod_eq_of_lt h1])
      clear hs ih
      go_enter Tryz.func62, Tryz.ntmps62
      go_wp2
      go_ret
      exact ⟨retO_str HX.out, HB.out⟩
    · have C := Lib.hid (fun w => ih (n / 10) (by omega) (by omega) w)
      rw [show (((n / 10 : Nat)) : Int) = (n : Int) / 10 by omega] at C
      obtain ⟨a, ha⟩ : ∃ a, a = B (Lib.decDigits (n / 10)) := ⟨_, rfl⟩
      have HX : Hid (a ++ s = B (Lib.decDigits n)) := Lib.hid (by rw [ha, hs]; exact dig_app h1)
      have hs1 : a.size ≤ 20 := by rw [ha]; exact dig_size _ (by omega)
      have hs2 : s.size = 1 := by rw [hs, B_size]; rfl
      rw [← ha] at C
      clear ha hs ih
      go_enter Tryz.func62, Tryz.ntmps62
      go_wp2_with (go_at_call 62; (with_reducible refine (C.out _).mono ?_); rintro e w1 ⟨rfl, hb1⟩)
      go_ret
      exact ⟨retO_str HX.out, HB.out.trans (hb1.mono HB.out.size)⟩
set_option maxHeartbeats 4000000 in
theorem digitsR_any (n : Int) (h1 : -1000000000000000000 < n) (h2 : n < 1000000000000000000) (w : World) : Calls Tryz.prog 62 #[.int .i64 n] w fun e w' => e = .returned (.string (B (Lib.itoa n))) ∧ Below w.heap.size w w' := by
  by_cases hn : n < 0
  · obtain ⟨u, rfl⟩ : ∃ u : Nat, n = -(u : Int) := ⟨n.natAbs, by omega⟩
    have C := Lib.hid (fun w => digitsN_any u (by omega) w)
    obtain ⟨a, ha⟩ : ∃ a, a = B (Lib.decDigits u) := ⟨_, rfl⟩
    have HX : Hid ((⟨#[45]⟩ : ByteArray) ++ a = B (Lib.itoa (-(u : Int)))) := Lib.hid (by rw [ha, Lib.itoa_neg u (by omega)]; exact B_app [45] (Lib.decDigits u))
    have hs1 : a.size ≤ 20 := by rw [ha]; exact dig_size _ (by omega)
    rw [← ha] at C
    clear ha
    have hu : 0 < u := by omega
    go_enter Tryz.func62, Tryz.ntmps62
    go_wp2_with (go_at_call 62; (with_reducible refine (C.out _).mono ?_); rintro e w1 ⟨rfl, hb1⟩)
    go_ret
    exact ⟨retO_str HX.out, hb1⟩
  · obtain ⟨u, rfl⟩ : ∃ u : Nat, n = (u : Int) := ⟨n.toNat, by omega⟩
    rw [Lib.itoa_nonneg]
    exact digitsN_any u (by omega) w
end Go.Proofs.YthhjgndaiimgjaaGreatDoor
end
