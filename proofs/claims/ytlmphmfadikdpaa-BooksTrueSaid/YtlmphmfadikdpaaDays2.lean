/- The walks of package days, more. -/
import Derived.Test.YtlmphmfadikdpaaDays
set_option linter.unusedVariables false
namespace Go.Proofs.Ytlmphmfadikdpaa
open Go.RowKit Gno

theorem leap_no (y : Int) (w : World) (h : isYear y = false) :
    Calls Try.prog 15 #[.int .i64 y] w fun e w' => e = .returned (.tuple #[.bool false, .int .i64 3]) ∧ w = w' := by
  go_enter Try.func15, Try.ntmps15
  go_wp2_with (go_at_call 42; refine (year_any _ _).mono ?_; rintro e w' ⟨rfl, rfl⟩)
  go_ret2
  exact ⟨rfl, rfl⟩

theorem leap_yes (y : Int) (w : World) (h : isYear y = true) :
    Calls Try.prog 15 #[.int .i64 y] w fun e w' => e = .returned (.tuple #[.bool (y % 4 == 0), .int .i64 0]) ∧ w = w' := by
  have h1' : 1970 ≤ y ∧ y ≤ 2029 := by simpa [isYear] using h
  obtain ⟨h2, h3⟩ := h1'
  go_enter Try.func15, Try.ntmps15
  go_wp2_with (go_at_call 42; refine (year_any _ _).mono ?_; rintro e w' ⟨rfl, rfl⟩)
  go_ret2
  exact ⟨rfl, rfl⟩


theorem days_no (y m d : Int) (w : World) (h : isDate y m d = false) :
    Calls Try.prog 16 #[.int .i64 y, .int .i64 m, .int .i64 d] w fun e w' => e = .returned (.tuple #[.int .i64 0, .int .i64 3]) ∧ w = w' := by
  have h' : ¬ ((1970 ≤ y ∧ y ≤ 2029) ∧ (1 ≤ m ∧ m ≤ 12) ∧ 1 ≤ d ∧ d ≤ size y m) := fun x => by
    rw [(isDate_iff y m d).2 x] at h; cases h
  clear h
  by_cases h1 : d < 1
  · clear h'
    go_enter Try.func16, Try.ntmps16
    go_wp2
    go_ret2
    exact ⟨rfl, rfl⟩
  · by_cases h2 : 1970 ≤ y ∧ y ≤ 2029 ∧ 1 ≤ m ∧ m ≤ 12
    · have h3 : size y m < d := by omega
      have b := size_bd y m (by omega) (by omega)
      clear h'
      go_enter Try.func16, Try.ntmps16
      go_wp2_with (go_at_call 43; refine (size_yes _ _ _ h2.1 h2.2.1 h2.2.2.1 h2.2.2.2).mono ?_; rintro e w' ⟨rfl, rfl⟩)
      go_ret2
      exact ⟨rfl, rfl⟩
    · clear h'
      go_enter Try.func16, Try.ntmps16
      go_wp2_with (go_at_call 43; refine (size_no _ _ _ h2).mono ?_; rintro e w' ⟨rfl, rfl⟩)
      go_ret2
      exact ⟨rfl, rfl⟩

theorem days_yes (y m d : Int) (w : World) (h : isDate y m d = true) :
    Calls Try.prog 16 #[.int .i64 y, .int .i64 m, .int .i64 d] w fun e w' => e = .returned (.tuple #[.int .i64 (num y m d), .int .i64 0]) ∧ w = w' := by
  have h' := (isDate_iff y m d).1 h
  clear h
  obtain ⟨⟨h1, h2⟩, ⟨h3, h4⟩, h5, h6⟩ := h'
  have b := size_bd y m (by omega) (by omega)
  have b1 := begin_bd y h1 (by omega)
  have b2 := aheadY_bd y m
  go_enter Try.func16, Try.ntmps16
  go_wp2_with (first
    | (go_at_call 43; refine (size_yes _ _ _ h1 h2 h3 h4).mono ?_; rintro e w' ⟨rfl, rfl⟩)
    | (go_at_call 44; refine (begin_any _ _ h1 (by omega)).mono ?_; rintro e w' ⟨rfl, rfl⟩)
    | (go_at_call 45; refine (ahead_any _ _ _ h3 (by omega) h1 (by omega)).mono ?_; rintro e w' ⟨rfl, rfl⟩))
  go_ret2
  exact ⟨rfl, rfl⟩


theorem week_no (n : Int) (w : World) (h : isDay n = false) :
    Calls Try.prog 18 #[.int .i64 n] w fun e w' => e = .returned (.tuple #[.int .i64 0, .int .i64 3]) ∧ w = w' := by
  have h' : n < 0 ∨ 21914 < n := by
    rcases Int.lt_or_le n 0 with h0 | h0
    · exact .inl h0
    · rcases Int.lt_or_le 21914 n with h1 | h1
      · exact .inr h1
      · rw [(isDay_iff n).2 ⟨h0, h1⟩] at h; cases h
  clear h
  rcases h' with h' | h'
  · go_enter Try.func18, Try.ntmps18
    go_wp2
    go_ret2
    exact ⟨rfl, rfl⟩
  · have h0 : ¬ n < 0 := by omega
    go_enter Try.func18, Try.ntmps18
    go_wp2
    go_ret2
    exact ⟨rfl, rfl⟩

theorem week_yes (n : Int) (w : World) (h : isDay n = true) :
    Calls Try.prog 18 #[.int .i64 n] w fun e w' => e = .returned (.tuple #[.int .i64 ((n + 4) % 7), .int .i64 0]) ∧ w = w' := by
  have h' := (isDay_iff n).1 h
  obtain ⟨h1, h2⟩ := h'
  clear h
  go_enter Try.func18, Try.ntmps18
  go_wp2
  go_ret2
  exact ⟨rfl, rfl⟩

end Go.Proofs.Ytlmphmfadikdpaa
