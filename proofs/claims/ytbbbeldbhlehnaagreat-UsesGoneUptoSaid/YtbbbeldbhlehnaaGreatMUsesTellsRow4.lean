/- Parts of a proof, laid together. -/
import Derived.Test.YtbbbeldbhlehnaaGreatRows
import Derived.WalkKit
import Derived.WalkSpells
import Derived.WalkLawsBesides
import Derived.Handy
import Derived.Lib.Hide
import Derived.Test.YtbbbeldbhlehnaaGreatMUsesTellsRow0
set_option linter.unusedSimpArgs false
set_option linter.unusedVariables false
/-! The walks of package days and of the reference's first functions. -/
section
set_option linter.unusedVariables false
set_option linter.unusedSimpArgs false
namespace Go.Proofs.YtbbbeldbhlehnaaGreat
open Go.RowKit Gno

theorem ret_bool {a b : Bool} (h : a = b) : Ending.returned (.bool a) = .returned (.bool b) := by rw [h]
theorem ret_int {k : IntKind} {a b : Int} (h : a = b) : Ending.returned (.int k a) = .returned (.int k b) := by rw [h]

theorem year_any (y : Int) (w : World) :
    Calls Tryz.prog 135 #[.int .i64 y] w fun e w' => e = .returned (.bool (isYear y)) ∧ w = w' := by
  by_cases h1 : 1970 ≤ y
  · by_cases h2 : y ≤ 2029
    all_goals
      go_enter Tryz.func135, Tryz.ntmps135
      go_wp2
      go_ret
      exact ⟨ret_bool (by simp [isYear]; omega), rfl⟩
  · go_enter Tryz.func135, Tryz.ntmps135
    go_wp2
    go_ret
    exact ⟨ret_bool (by simp [isYear]; omega), rfl⟩

theorem begin_any (y : Int) (w : World) (h1 : 1970 ≤ y) (h2 : y ≤ 2030) :
    Calls Tryz.prog 137 #[.int .i64 y] w fun e w' => e = .returned (.int .i64 (begin_ y)) ∧ w = w' := by
  go_enter Tryz.func137, Tryz.ntmps137
  go_wp2
  go_ret
  exact ⟨ret_int (by unfold begin_; omega), rfl⟩

/-- the table of package days, read at a place. -/
theorem table_at (m : Int) (h1 : 1 ≤ m) (h2 : m ≤ 13) (w : World) :
    (Instr.index 151 (.agg #[.int .i64 0, .int .i64 0, .int .i64 31, .int .i64 59, .int .i64 90, .int .i64 120, .int .i64 151, .int .i64 181, .int .i64 212, .int .i64 243, .int .i64 273, .int .i64 304, .int .i64 334, .int .i64 365]) (.int .i64 m)).run Tryz.prog w = .ok (.int .i64 (cum0 m)) w := by
  rcases (by omega : m = 1 ∨ m = 2 ∨ m = 3 ∨ m = 4 ∨ m = 5 ∨ m = 6 ∨ m = 7 ∨ m = 8 ∨ m = 9 ∨ m = 10 ∨ m = 11 ∨ m = 12 ∨ m = 13) with rfl | rfl | rfl | rfl | rfl | rfl | rfl | rfl | rfl | rfl | rfl | rfl | rfl <;> kernel_rfl

theorem ahead_any (y m : Int) (w : World) (h1 : 1 ≤ m) (h2 : m ≤ 13) (hy1 : 1970 ≤ y) (hy2 : y ≤ 2030) :
    Calls Tryz.prog 136 #[.int .i64 y, .int .i64 m] w fun e w' => e = .returned (.int .i64 (aheadY y m)) ∧ w = w' := by
  have ht := table_at m h1 h2
  have hb := cum0_bd m
  by_cases h3 : y % 4 = 0
  · by_cases h4 : 2 < m
    all_goals
      go_enter Tryz.func136, Tryz.ntmps136
      go_wp2
      go_ret
      exact ⟨ret_int (by unfold aheadY lp; (repeat' split) <;> omega), rfl⟩
  · go_enter Tryz.func136, Tryz.ntmps136
    go_wp2
    go_ret
    exact ⟨ret_int (by unfold aheadY lp; (repeat' split) <;> omega), rfl⟩


theorem size_no (y m : Int) (w : World) (h : ¬ (1970 ≤ y ∧ y ≤ 2029 ∧ 1 ≤ m ∧ m ≤ 12)) :
    Calls Tryz.prog 124 #[.int .i64 y, .int .i64 m] w fun e w' => e = .returned (.int .i64 0) ∧ w = w' := by
  by_cases h1 : isYear y = true
  · have h1' : 1970 ≤ y ∧ y ≤ 2029 := by simpa [isYear] using h1
    by_cases h2 : m < 1
    · clear h
      go_enter Tryz.func124, Tryz.ntmps124
      go_wp2_with (go_at_call 135; refine (year_any _ _).mono ?_; rintro e w' ⟨rfl, rfl⟩)
      go_ret
      exact ⟨rfl, rfl⟩
    · have h3 : 12 < m := by omega
      clear h
      go_enter Tryz.func124, Tryz.ntmps124
      go_wp2_with (go_at_call 135; refine (year_any _ _).mono ?_; rintro e w' ⟨rfl, rfl⟩)
      go_ret
      exact ⟨rfl, rfl⟩
  · have h1' : isYear y = false := by simpa using h1
    clear h h1
    go_enter Tryz.func124, Tryz.ntmps124
    go_wp2_with (go_at_call 135; refine (year_any _ _).mono ?_; rintro e w' ⟨rfl, rfl⟩)
    go_ret
    exact ⟨rfl, rfl⟩

theorem size_yes (y m : Int) (w : World) (hy1 : 1970 ≤ y) (hy2 : y ≤ 2029) (h1 : 1 ≤ m) (h2 : m ≤ 12) :
    Calls Tryz.prog 124 #[.int .i64 y, .int .i64 m] w fun e w' => e = .returned (.int .i64 (size y m)) ∧ w = w' := by
  have hy : isYear y = true := by simp [isYear]; omega
  have b1 := aheadY_bd y m
  have b2 := aheadY_bd y (m + 1)
  go_enter Tryz.func124, Tryz.ntmps124
  go_wp2_with (first
    | (go_at_call 135; refine (year_any _ _).mono ?_; rintro e w' ⟨rfl, rfl⟩)
    | (go_at_call 136; refine (ahead_any _ _ _ (by omega) (by omega) hy1 (by omega)).mono ?_; rintro e w' ⟨rfl, rfl⟩))
  go_ret
  exact ⟨rfl, rfl⟩

end Go.Proofs.YtbbbeldbhlehnaaGreat
end
/-! The walks of package days, more. -/
section
set_option linter.unusedVariables false
set_option linter.unusedSimpArgs false
namespace Go.Proofs.YtbbbeldbhlehnaaGreat
open Go.RowKit Gno
theorem days_no (y m d : Int) (w : World) (h : isDate y m d = false) :
    Calls Tryz.prog 125 #[.int .i64 y, .int .i64 m, .int .i64 d] w fun e w' => e = .returned (.tuple #[.int .i64 0, .int .i64 3]) ∧ w = w' := by
  have h' : ¬ ((1970 ≤ y ∧ y ≤ 2029) ∧ (1 ≤ m ∧ m ≤ 12) ∧ 1 ≤ d ∧ d ≤ size y m) := fun x => by
    rw [(isDate_iff y m d).2 x] at h; cases h
  clear h
  by_cases h1 : d < 1
  · clear h'
    go_enter Tryz.func125, Tryz.ntmps125
    go_wp2
    go_ret2
    exact ⟨rfl, rfl⟩
  · by_cases h2 : 1970 ≤ y ∧ y ≤ 2029 ∧ 1 ≤ m ∧ m ≤ 12
    · have h3 : size y m < d := by omega
      have b := size_bd y m (by omega) (by omega)
      clear h'
      go_enter Tryz.func125, Tryz.ntmps125
      go_wp2_with (go_at_call 124; refine (size_yes _ _ _ h2.1 h2.2.1 h2.2.2.1 h2.2.2.2).mono ?_; rintro e w' ⟨rfl, rfl⟩)
      go_ret2
      exact ⟨rfl, rfl⟩
    · clear h'
      go_enter Tryz.func125, Tryz.ntmps125
      go_wp2_with (go_at_call 124; refine (size_no _ _ _ h2).mono ?_; rintro e w' ⟨rfl, rfl⟩)
      go_ret2
      exact ⟨rfl, rfl⟩

theorem days_yes (y m d : Int) (w : World) (h : isDate y m d = true) :
    Calls Tryz.prog 125 #[.int .i64 y, .int .i64 m, .int .i64 d] w fun e w' => e = .returned (.tuple #[.int .i64 (num y m d), .int .i64 0]) ∧ w = w' := by
  have h' := (isDate_iff y m d).1 h
  clear h
  obtain ⟨⟨h1, h2⟩, ⟨h3, h4⟩, h5, h6⟩ := h'
  have b := size_bd y m (by omega) (by omega)
  have b1 := begin_bd y h1 (by omega)
  have b2 := aheadY_bd y m
  go_enter Tryz.func125, Tryz.ntmps125
  go_wp2_with (first
    | (go_at_call 124; refine (size_yes _ _ _ h1 h2 h3 h4).mono ?_; rintro e w' ⟨rfl, rfl⟩)
    | (go_at_call 137; refine (begin_any _ _ h1 (by omega)).mono ?_; rintro e w' ⟨rfl, rfl⟩)
    | (go_at_call 136; refine (ahead_any _ _ _ h3 (by omega) h1 (by omega)).mono ?_; rintro e w' ⟨rfl, rfl⟩))
  go_ret2
  exact ⟨rfl, rfl⟩


end Go.Proofs.YtbbbeldbhlehnaaGreat
end
/-! The walk of days.Date; the reference's leaves. -/
section
set_option linter.unusedVariables false
set_option linter.unusedSimpArgs false
namespace Go.Proofs.YtbbbeldbhlehnaaGreat
open Go.RowKit Gno

theorem results_tmp4 {fn : Func} {t u v x : Tmp} (h : fn.results = #[.tmp t, .tmp u, .tmp v, .tmp x]) (tmps : Array Value) (P : Program) (w : World) :
    (results fn tmps).run P w = .ok (.tuple #[tmps.getD t undef, tmps.getD u undef, tmps.getD v undef, tmps.getD x undef]) w := by simp [results, h]

theorem yOf_guess (n : Int) (h1 : 0 ≤ n) : 1970 ≤ 1970 + n / 366 ∧ 1970 + n / 366 ≤ yOf n := by unfold yOf; omega

end Go.Proofs.YtbbbeldbhlehnaaGreat
end
/-! The reference's leaves. -/
section
set_option linter.unusedVariables false
set_option linter.unusedSimpArgs false
namespace Go.Proofs.YtbbbeldbhlehnaaGreat
open Go.RowKit Gno

def withinB (n lo hi : Int) : Bool := decide (lo ≤ n ∧ n ≤ hi)
theorem withinB_iff (n lo hi : Int) : withinB n lo hi = true ↔ lo ≤ n ∧ n ≤ hi := by simp [withinB]
theorem withinB_no (n lo hi : Int) : withinB n lo hi = false ↔ ¬ (lo ≤ n ∧ n ≤ hi) := by unfold withinB; rw [decide_eq_false_iff_not]

theorem within_any (n lo hi : Int) (w : World) :
    Calls Tryz.prog 43 #[.int .i64 n, .int .i64 lo, .int .i64 hi] w fun e w' => e = .returned (.bool (withinB n lo hi)) ∧ w = w' := by
  by_cases h1 : lo ≤ n
  · by_cases h2 : n ≤ hi
    all_goals
      go_enter Tryz.func43, Tryz.ntmps43
      go_wp2
      go_ret
      exact ⟨ret_bool (by simp [withinB]; omega), rfl⟩
  · go_enter Tryz.func43, Tryz.ntmps43
    go_wp2
    go_ret
    exact ⟨ret_bool (by simp [withinB]; omega), rfl⟩

theorem isYearR_any (y : Int) (w : World) :
    Calls Tryz.prog 112 #[.int .i64 y] w fun e w' => e = .returned (.bool (isYear y)) ∧ w = w' := by
  go_enter Tryz.func112, Tryz.ntmps112
  go_wp2_with (go_at_call 43; refine (within_any _ _ _ _).mono ?_; rintro e w' ⟨rfl, rfl⟩)
  go_ret
  exact ⟨rfl, rfl⟩

theorem isMonthR_any (y : Int) (w : World) :
    Calls Tryz.prog 113 #[.int .i64 y] w fun e w' => e = .returned (.bool (isMonth y)) ∧ w = w' := by
  go_enter Tryz.func113, Tryz.ntmps113
  go_wp2_with (go_at_call 43; refine (within_any _ _ _ _).mono ?_; rintro e w' ⟨rfl, rfl⟩)
  go_ret
  exact ⟨rfl, rfl⟩

theorem yearDays_any (y : Int) (w : World) (h1 : 1970 ≤ y) (h2 : y ≤ 2030) :
    Calls Tryz.prog 140 #[.int .i64 y] w fun e w' => e = .returned (.int .i64 (yearDays y)) ∧ w = w' := by
  by_cases h3 : y % 4 = 0
  all_goals
    go_enter Tryz.func140, Tryz.ntmps140
    go_wp2
    go_ret
    exact ⟨ret_int (by unfold yearDays; split <;> omega), rfl⟩

theorem weekOf_any (n : Int) (w : World) (h1 : 0 ≤ n) (h2 : n ≤ 21914) :
    Calls Tryz.prog 133 #[.int .i64 n] w fun e w' => e = .returned (.int .i64 ((n + 4) % 7)) ∧ w = w' := by
  go_enter Tryz.func133, Tryz.ntmps133
  go_wp2
  go_ret
  exact ⟨rfl, rfl⟩

theorem size_vals (y : Int) : size y 1 = 31 ∧ size y 2 = 28 + lp y ∧ size y 3 = 31 ∧ size y 4 = 30 ∧ size y 5 = 31 ∧ size y 6 = 30 ∧ size y 7 = 31 ∧ size y 8 = 31 ∧ size y 9 = 30 ∧ size y 10 = 31 ∧ size y 11 = 30 ∧ size y 12 = 31 := by
  refine ⟨?_, ?_, ?_, ?_, ?_, ?_, ?_, ?_, ?_, ?_, ?_, ?_⟩ <;> rw [size_is _ _ (by omega) (by omega)] <;> simp

/-- the reference's table of months: a plain year's. -/
def mtab : List Value := [.int .i64 31, .int .i64 28, .int .i64 31, .int .i64 30, .int .i64 31, .int .i64 30, .int .i64 31, .int .i64 31, .int .i64 30, .int .i64 31, .int .i64 30, .int .i64 31]
theorem mtab_at (y m : Int) (h1 : 1 ≤ m) (h2 : m ≤ 12) : ∃ v : Int, 28 ≤ v ∧ v ≤ 31 ∧ mtab[m.toNat - 1]? = some (.int .i64 v) ∧ size y m = v + if m = 2 then lp y else 0 := by
  obtain ⟨a1, a2, a3, a4, a5, a6, a7, a8, a9, a10, a11, a12⟩ := size_vals y
  rcases months h1 h2 with rfl | rfl | rfl | rfl | rfl | rfl | rfl | rfl | rfl | rfl | rfl | rfl
  · exact ⟨31, by omega, by omega, rfl, a1⟩
  · exact ⟨28, by omega, by omega, rfl, a2⟩
  · exact ⟨31, by omega, by omega, rfl, a3⟩
  · exact ⟨30, by omega, by omega, rfl, a4⟩
  · exact ⟨31, by omega, by omega, rfl, a5⟩
  · exact ⟨30, by omega, by omega, rfl, a6⟩
  · exact ⟨31, by omega, by omega, rfl, a7⟩
  · exact ⟨31, by omega, by omega, rfl, a8⟩
  · exact ⟨30, by omega, by omega, rfl, a9⟩
  · exact ⟨31, by omega, by omega, rfl, a10⟩
  · exact ⟨30, by omega, by omega, rfl, a11⟩
  · exact ⟨31, by omega, by omega, rfl, a12⟩

theorem monthDays_any (y m : Int) (w : World) (hy1 : 1970 ≤ y) (hy2 : y ≤ 2029) (h1 : 1 ≤ m) (h2 : m ≤ 12) :
    Calls Tryz.prog 131 #[.int .i64 y, .int .i64 m] w fun e w' => e = .returned (.int .i64 (size y m)) ∧ Below w.heap.size w w' := by
  obtain ⟨v, v1, v2, hc, hv⟩ := mtab_at y m h1 h2
  unfold mtab at hc
  have hV := Lib.hid hv
  clear hv
  by_cases hm : m = 2
  · have hm' : (m == 2) = true := by simpa using hm
    have hM := Lib.hid hm
    clear hm
    by_cases h3 : y % 4 = 0
    · go_enter Tryz.func131, Tryz.ntmps131
      go_wp2
      go_ret
      exact ⟨ret_int (by rw [hV.out, if_pos hM.out]; unfold lp; rw [if_pos h3]), (Below.refl _ _).alloc (Nat.le_refl _) _⟩
    · go_enter Tryz.func131, Tryz.ntmps131
      go_wp2
      go_ret
      exact ⟨ret_int (by rw [hV.out, if_pos hM.out]; unfold lp; rw [if_neg h3]; omega), (Below.refl _ _).alloc (Nat.le_refl _) _⟩
  · have hm' : (m == 2) = false := by simpa using hm
    have hM := Lib.hid hm
    clear hm
    go_enter Tryz.func131, Tryz.ntmps131
    go_wp2
    go_ret
    exact ⟨ret_int (by rw [hV.out, if_neg hM.out]; omega), (Below.refl _ _).alloc (Nat.le_refl _) _⟩

end Go.Proofs.YtbbbeldbhlehnaaGreat
end
/-! The reference's DaysOf and DateOf. -/
section
set_option linter.unusedVariables false
set_option linter.unusedSimpArgs false
namespace Go.Proofs.YtbbbeldbhlehnaaGreat
open Go.RowKit Gno

theorem ret_int2 {k : IntKind} {a b : Int} {v : Value} (h : a = b) : Ending.returned (.tuple #[.int k a, v]) = .returned (.tuple #[.int k b, v]) := by rw [h]

theorem isMonth_iff (m : Int) : isMonth m = true ↔ 1 ≤ m ∧ m ≤ 12 := by simp [isMonth]
theorem isYear_iff (m : Int) : isYear m = true ↔ 1970 ≤ m ∧ m ≤ 2029 := by simp [isYear]

theorem daysOf_no (y m d : Int) (w : World) (h : isDate y m d = false) :
    Calls Tryz.prog 132 #[.int .i64 y, .int .i64 m, .int .i64 d] w fun e w' => e = .returned (.tuple #[.int .i64 0, .int .i64 3]) ∧ Below w.heap.size w w' := by
  have h' : ¬ ((1970 ≤ y ∧ y ≤ 2029) ∧ (1 ≤ m ∧ m ≤ 12) ∧ 1 ≤ d ∧ d ≤ size y m) := fun x => by
    rw [(isDate_iff y m d).2 x] at h; cases h
  clear h
  cases hy : isYear y
  · clear h'
    go_enter Tryz.func132, Tryz.ntmps132
    go_wp2_with (go_at_call 112; refine (isYearR_any _ _).mono ?_; rintro e w' ⟨rfl, rfl⟩)
    go_ret2
    exact ⟨rfl, Below.refl _ _⟩
  · cases hm : isMonth m
    · clear h'
      go_enter Tryz.func132, Tryz.ntmps132
      go_wp2_with (first
        | (go_at_call 112; refine (isYearR_any _ _).mono ?_; rintro e w' ⟨rfl, rfl⟩)
        | (go_at_call 113; refine (isMonthR_any _ _).mono ?_; rintro e w' ⟨rfl, rfl⟩))
      go_ret2
      exact ⟨rfl, Below.refl _ _⟩
    · have y' := (isYear_iff y).1 hy
      have m' := (isMonth_iff m).1 hm
      have hd : withinB d 1 (size y m) = false := (withinB_no _ _ _).2 (by omega)
      have b := size_bd y m m'.1 m'.2
      clear h'
      go_enter Tryz.func132, Tryz.ntmps132
      go_wp2_with (first
        | (go_at_call 112; refine (isYearR_any _ _).mono ?_; rintro e w' ⟨rfl, rfl⟩)
        | (go_at_call 113; refine (isMonthR_any _ _).mono ?_; rintro e w' ⟨rfl, rfl⟩)
        | (go_at_call 131; refine (monthDays_any _ _ _ y'.1 y'.2 m'.1 m'.2).mono ?_; rintro e w1 ⟨rfl, hb1⟩)
        | (go_at_call 43; refine (within_any _ _ _ _).mono ?_; rintro e w' ⟨rfl, rfl⟩))
      go_ret2
      exact ⟨rfl, hb1⟩

set_option maxHeartbeats 1000000 in
theorem daysOf_yes (y m d : Int) (w : World) (h : isDate y m d = true) :
    Calls Tryz.prog 132 #[.int .i64 y, .int .i64 m, .int .i64 d] w fun e w' => e = .returned (.tuple #[.int .i64 (num y m d), .int .i64 0]) ∧ Below w.heap.size w w' := by
  obtain ⟨⟨y1, y2⟩, ⟨m1, m2⟩, d1, d2⟩ := (isDate_iff y m d).1 h
  have hy := (isYear_iff y).2 ⟨y1, y2⟩
  have hm := (isMonth_iff m).2 ⟨m1, m2⟩
  have hd := (withinB_iff d 1 (size y m)).2 ⟨d1, d2⟩
  have b := size_bd y m m1 m2
  clear h
  go_enter Tryz.func132, Tryz.ntmps132
  go_wp2_with (first
    | (go_at_call 112; refine (isYearR_any _ _).mono ?_; rintro e w' ⟨rfl, rfl⟩)
    | (go_at_call 113; refine (isMonthR_any _ _).mono ?_; rintro e w' ⟨rfl, rfl⟩)
    | (go_at_call 131; refine (monthDays_any _ _ _ y1 y2 m1 m2).mono ?_; rintro e w1 ⟨rfl, hb1⟩)
    | (go_at_call 43; refine (within_any _ _ _ _).mono ?_; rintro e w' ⟨rfl, rfl⟩))
  go_loop [8, 9] (fun n t => ∃ k : Int, 1970 ≤ k ∧ k ≤ y ∧ t = .int .i64 k ∧ n = .int .i64 (d - 1 + begin_ k)) (fun _ t => (y - intOf t).toNat)
  case atStart => exact ⟨1970, by omega, y1, rfl, by simp [begin_1970]⟩
  case round =>
    obtain ⟨k, k1, k2, rfl, rfl⟩ := hrel
    have c := begin_bd k k1 (by omega)
    by_cases hk : k < y
    · have hs := Lib.hid (begin_succ k)
      have hyd := Lib.hid (yearDays_is k)
      have hl := lp_01 k
      have hyb : 365 ≤ yearDays k ∧ yearDays k ≤ 366 := by have := yearDays_is k; omega
      go_wp2_with (go_at_call 140; refine (yearDays_any _ _ k1 (by omega)).mono ?_; rintro e w' ⟨rfl, rfl⟩)
      go_round
      case rel => exact ⟨k + 1, by omega, by omega, rfl, by rw [hs.out, hyd.out]; go_num⟩
      case measure => simp [intOf]; omega
    · obtain rfl : k = y := by omega
      clear hk k1 k2
      go_wp2
      go_loopw [8, 10] (fun n t wr => ∃ j : Int, 1 ≤ j ∧ j ≤ m ∧ t = .int .i64 j ∧ n = .int .i64 (d - 1 + begin_ k + aheadY k j) ∧ Below w.heap.size w wr) (fun _ t _ => (m - intOf t).toNat)
      case atStart => exact ⟨1, by omega, m1, rfl, by simp [aheadY_one], hb1⟩
      case round =>
        obtain ⟨j, j1, j2, rfl, rfl, hb2⟩ := hrel
        have c2 := aheadY_bd k j
        by_cases hj : j < m
        · have hs := Lib.hid (aheadY_succ k j)
          have hsb := size_bd k j (by omega) (by omega)
          go_wp2_with (go_at_call 131; refine (monthDays_any _ _ _ y1 y2 (by omega) (by omega)).mono ?_; rintro e w2 ⟨rfl, hb3⟩)
          go_roundw
          case rel => exact ⟨j + 1, by omega, by omega, rfl, by rw [hs.out]; go_num, hb2.trans (hb3.mono hb2.size)⟩
          case measure => simp [intOf]; omega
        · obtain rfl : j = m := by omega
          go_wp2
          go_ret2
          exact ⟨ret_int2 (by unfold num; omega), hb2⟩

theorem dOf_is (n y m : Int) (hy : yOf n = y) (hm : mOf n = m) : dOf n = n - begin_ y - aheadY y m + 1 := by unfold dOf; rw [hm, hy]

end Go.Proofs.YtbbbeldbhlehnaaGreat
end
/-! The contracts of days, whatever is handed in; what must be in any case. -/
section
set_option linter.unusedVariables false
set_option linter.unusedSimpArgs false
namespace Gno
def daysN (y m d : Int) : Int := if isDate y m d = true then num y m d else 0
def daysE (y m d : Int) : Int := if isDate y m d = true then 0 else 3
def dateY (n : Int) : Int := if isDay n = true then yOf n else 0
def dateM (n : Int) : Int := if isDay n = true then mOf n else 0
def dateD (n : Int) : Int := if isDay n = true then dOf n else 0
def dateE (n : Int) : Int := if isDay n = true then 0 else 3
def weekN (n : Int) : Int := if isDay n = true then (n + 4) % 7 else 0
def leapB (y : Int) : Bool := isYear y && (y % 4 == 0)
def leapE (y : Int) : Int := if isYear y = true then 0 else 3
end Gno
namespace Go.Proofs.YtbbbeldbhlehnaaGreat
open Go.RowKit Gno
theorem days_any (y m d : Int) (w : World) :
    Calls Tryz.prog 125 #[.int .i64 y, .int .i64 m, .int .i64 d] w fun e w' => e = .returned (.tuple #[.int .i64 (daysN y m d), .int .i64 (daysE y m d)]) ∧ w = w' := by
  cases h : isDate y m d
  · rw [show daysN y m d = 0 by simp [daysN, h], show daysE y m d = 3 by simp [daysE, h]]; exact days_no y m d w h
  · rw [show daysN y m d = num y m d by simp [daysN, h], show daysE y m d = 0 by simp [daysE, h]]; exact days_yes y m d w h
theorem daysOf_any (y m d : Int) (w : World) :
    Calls Tryz.prog 132 #[.int .i64 y, .int .i64 m, .int .i64 d] w fun e w' => e = .returned (.tuple #[.int .i64 (daysN y m d), .int .i64 (daysE y m d)]) ∧ Below w.heap.size w w' := by
  cases h : isDate y m d
  · rw [show daysN y m d = 0 by simp [daysN, h], show daysE y m d = 3 by simp [daysE, h]]; exact daysOf_no y m d w h
  · rw [show daysN y m d = num y m d by simp [daysN, h], show daysE y m d = 0 by simp [daysE, h]]; exact daysOf_yes y m d w h
end Go.Proofs.YtbbbeldbhlehnaaGreat
end
