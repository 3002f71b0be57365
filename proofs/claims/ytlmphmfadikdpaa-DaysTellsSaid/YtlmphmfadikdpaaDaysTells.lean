/- Proved: for every year, month, day and day's number the statement DaysTells returns true: each call of package days answers what the reference answers. No condition. -/
import Derived.Test.YtlmphmfadikdpaaDays6
import Derived.Test.YtlmphmfadikdpaaLaw
namespace Go.Proofs.Ytlmphmfadikdpaa
open Go.ChangeShapes Go.WideShapes Go.ChangeAt Go.RowKit Gno

set_option maxRecDepth 100000 in
set_option maxHeartbeats 4000000 in
theorem daysTells_walk (y m d n : Int) (w : World) :
    Calls Try.prog 3 #[.int .i64 y, .int .i64 m, .int .i64 d, .int .i64 n] w fun e w' => e = .returned (.bool true) ∧ Below w.heap.size w w' := by
  have hcases : ∀ b : Bool, b = true ∨ b = false := by decide
  rcases hcases (isYear y) with hy | hy
  · have hy' := (isYear_iff y).1 hy
    obtain ⟨hy1, hy2⟩ := hy'
    rcases hcases (isDay n) with hn | hn
    · have hn' := (isDay_iff n).1 hn
      obtain ⟨hn1, hn2⟩ := hn'
      have he : (dateE n == 0) = true := by simp [dateE, hn]
      have hwk : ((n + 4) % 7 == weekN n) = true := by simp [weekN, hn]
      have hwk2 : (weekN n == (n + 4) % 7) = true := by simp [weekN, hn]
      go_enter Try.func3, Try.ntmps3
      go_wp2_with (first
        | (go_at_call 15; refine (leap_yes _ _ hy).mono ?_; rintro e w' ⟨rfl, rfl⟩)
        | (go_at_call 16; refine (days_any _ _ _ _).mono ?_; rintro e w' ⟨rfl, rfl⟩)
        | (go_at_call 17; refine (date_any _ _).mono ?_; rintro e w' ⟨rfl, rfl⟩)
        | (go_at_call 18; refine (week_any _ _).mono ?_; rintro e w' ⟨rfl, rfl⟩)
        | (go_at_call 19; refine (daysOf_any _ _ _ _).mono ?_; rintro e w1 ⟨rfl, hb1⟩)
        | (go_at_call 20; refine (dateOf_any _ _).mono ?_; rintro e w2 ⟨rfl, hb2⟩)
        | (go_at_call 21; refine (weekOf_any _ _ hn1 hn2).mono ?_; rintro e w' ⟨rfl, rfl⟩)
        | (go_at_call 22; refine (daysBegun_any _).mono ?_; rintro e w' ⟨rfl, rfl⟩)
        | (go_at_call 23; refine (isYearR_any _ _).mono ?_; rintro e w' ⟨rfl, rfl⟩))
      go_ret
      exact ⟨rfl, hb1.trans (hb2.mono hb1.size)⟩
    · have he : (dateE n == 0) = false := by simp [dateE, hn]
      have hwk : (weekN n == 0) = true := by simp [weekN, hn]
      go_enter Try.func3, Try.ntmps3
      go_wp2_with (first
        | (go_at_call 15; refine (leap_yes _ _ hy).mono ?_; rintro e w' ⟨rfl, rfl⟩)
        | (go_at_call 16; refine (days_any _ _ _ _).mono ?_; rintro e w' ⟨rfl, rfl⟩)
        | (go_at_call 17; refine (date_any _ _).mono ?_; rintro e w' ⟨rfl, rfl⟩)
        | (go_at_call 18; refine (week_any _ _).mono ?_; rintro e w' ⟨rfl, rfl⟩)
        | (go_at_call 19; refine (daysOf_any _ _ _ _).mono ?_; rintro e w1 ⟨rfl, hb1⟩)
        | (go_at_call 20; refine (dateOf_any _ _).mono ?_; rintro e w2 ⟨rfl, hb2⟩)
        | (go_at_call 22; refine (daysBegun_any _).mono ?_; rintro e w' ⟨rfl, rfl⟩)
        | (go_at_call 23; refine (isYearR_any _ _).mono ?_; rintro e w' ⟨rfl, rfl⟩))
      go_ret
      exact ⟨rfl, hb1.trans (hb2.mono hb1.size)⟩
  · rcases hcases (isDay n) with hn | hn
    · have hn' := (isDay_iff n).1 hn
      obtain ⟨hn1, hn2⟩ := hn'
      have he : (dateE n == 0) = true := by simp [dateE, hn]
      have hwk : ((n + 4) % 7 == weekN n) = true := by simp [weekN, hn]
      have hwk2 : (weekN n == (n + 4) % 7) = true := by simp [weekN, hn]
      go_enter Try.func3, Try.ntmps3
      go_wp2_with (first
        | (go_at_call 15; refine (leap_no _ _ hy).mono ?_; rintro e w' ⟨rfl, rfl⟩)
        | (go_at_call 16; refine (days_any _ _ _ _).mono ?_; rintro e w' ⟨rfl, rfl⟩)
        | (go_at_call 17; refine (date_any _ _).mono ?_; rintro e w' ⟨rfl, rfl⟩)
        | (go_at_call 18; refine (week_any _ _).mono ?_; rintro e w' ⟨rfl, rfl⟩)
        | (go_at_call 19; refine (daysOf_any _ _ _ _).mono ?_; rintro e w1 ⟨rfl, hb1⟩)
        | (go_at_call 20; refine (dateOf_any _ _).mono ?_; rintro e w2 ⟨rfl, hb2⟩)
        | (go_at_call 21; refine (weekOf_any _ _ hn1 hn2).mono ?_; rintro e w' ⟨rfl, rfl⟩)
        | (go_at_call 22; refine (daysBegun_any _).mono ?_; rintro e w' ⟨rfl, rfl⟩)
        | (go_at_call 23; refine (isYearR_any _ _).mono ?_; rintro e w' ⟨rfl, rfl⟩))
      go_ret
      exact ⟨rfl, hb1.trans (hb2.mono hb1.size)⟩
    · have he : (dateE n == 0) = false := by simp [dateE, hn]
      have hwk : (weekN n == 0) = true := by simp [weekN, hn]
      go_enter Try.func3, Try.ntmps3
      go_wp2_with (first
        | (go_at_call 15; refine (leap_no _ _ hy).mono ?_; rintro e w' ⟨rfl, rfl⟩)
        | (go_at_call 16; refine (days_any _ _ _ _).mono ?_; rintro e w' ⟨rfl, rfl⟩)
        | (go_at_call 17; refine (date_any _ _).mono ?_; rintro e w' ⟨rfl, rfl⟩)
        | (go_at_call 18; refine (week_any _ _).mono ?_; rintro e w' ⟨rfl, rfl⟩)
        | (go_at_call 19; refine (daysOf_any _ _ _ _).mono ?_; rintro e w1 ⟨rfl, hb1⟩)
        | (go_at_call 20; refine (dateOf_any _ _).mono ?_; rintro e w2 ⟨rfl, hb2⟩)
        | (go_at_call 22; refine (daysBegun_any _).mono ?_; rintro e w' ⟨rfl, rfl⟩)
        | (go_at_call 23; refine (isYearR_any _ _).mono ?_; rintro e w' ⟨rfl, rfl⟩))
      go_ret
      exact ⟨rfl, hb1.trans (hb2.mono hb1.size)⟩
end Go.Proofs.Ytlmphmfadikdpaa
