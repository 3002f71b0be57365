/- Proved: for every year, month, day and day's number the statement DaysBack returns true: the date of a date's number is that date, the number of a day's date that day, and the next day's date and weekday are the next ones. No condition. -/
import Derived.Test.YtlmphmfadikdpaaDays6
import Derived.Test.YtlmphmfadikdpaaLaw
import Derived.Test.YtlmphmfadikdpaaPlain3
namespace Go.Proofs.Ytlmphmfadikdpaa
open Go.ChangeShapes Go.WideShapes Go.ChangeAt Go.RowKit Gno

theorem dateE_ok {n : Int} (h : isDay n = true) : dateE n = 0 := by simp [dateE, h]
theorem daysE_ok {y m d : Int} (h : isDate y m d = true) : daysE y m d = 0 := by simp [daysE, h]

/-- the first part: what it asks of the date, answered. -/
theorem date_of_num (y m d : Int) (h : isDate y m d = true) (w : World) :
    Calls Try.prog 17 #[.int .i64 (num y m d)] w fun e w' => e = .returned (.tuple #[.int .i64 y, .int .i64 m, .int .i64 d, .int .i64 0]) ∧ w = w' := by
  obtain ⟨h1, h2, h3, h4⟩ := day_of y m d h
  have := date_yes (num y m d) w h1
  rw [h2, h3, h4] at this
  exact this
theorem num_of_date (n : Int) (h : isDay n = true) (w : World) :
    Calls Try.prog 16 #[.int .i64 (yOf n), .int .i64 (mOf n), .int .i64 (dOf n)] w fun e w' => e = .returned (.tuple #[.int .i64 n, .int .i64 0]) ∧ w = w' := by
  obtain ⟨h1, h2⟩ := date_of n h
  have := days_yes _ _ _ w h1
  rw [h2] at this
  exact this

set_option maxRecDepth 100000 in
set_option maxHeartbeats 4000000 in
theorem daysBack_walk (y m d n : Int) (w : World) :
    Calls Try.prog 4 #[.int .i64 y, .int .i64 m, .int .i64 d, .int .i64 n] w fun e w' => e = .returned (.bool true) ∧ Below w.heap.size w w' := by
  have hcases : ∀ b : Bool, b = true ∨ b = false := by decide
  -- the law's first part leaves nothing but the date asked
  have key : ∀ w, Calls Try.prog 16 #[.int .i64 y, .int .i64 m, .int .i64 d] w fun e w' => (e = .returned (.tuple #[.int .i64 (daysN y m d), .int .i64 (daysE y m d)])) ∧ w = w' := fun w => days_any y m d w
  have K := Lib.hid key
  clear key
  rcases hcases (isDay n) with hn | hn
  · obtain ⟨hn1, hn2⟩ := (isDay_iff n).1 hn
    have D1 := Lib.hid (fun w => date_yes n w hn)
    have D2 := Lib.hid (fun w => num_of_date n hn w)
    by_cases hlast : n = 21914
    · have hlb : (n == 21914) = true := by simp [hlast]
      clear hlast
      rcases hcases (isDate y m d) with hd | hd
      · have eK : daysE y m d = 0 := daysE_ok hd
        have eN : daysN y m d = num y m d := by simp [daysN, hd]
        have D0 := Lib.hid (fun w => date_of_num y m d hd w)
        rw [eK, eN] at K
        clear eK eN hd
        go_enter Try.func4, Try.ntmps4
        go_wp2_with (first
          | (go_at_call 16; (with_reducible refine (K.out _).mono ?_); rintro e w' ⟨rfl, rfl⟩)
          | (go_at_call 16; (with_reducible refine (D2.out _).mono ?_); rintro e w' ⟨rfl, rfl⟩)
          | (go_at_call 17; (with_reducible refine (D0.out _).mono ?_); rintro e w' ⟨rfl, rfl⟩)
          | (go_at_call 17; (with_reducible refine (D1.out _).mono ?_); rintro e w' ⟨rfl, rfl⟩)
          | (go_at_call 22; refine (daysBegun_any _).mono ?_; rintro e w' ⟨rfl, rfl⟩))
        go_ret
        exact ⟨rfl, Below.refl _ _⟩
      · have eK : daysE y m d = 3 := by simp [daysE, hd]
        rw [eK] at K
        clear eK hd
        go_enter Try.func4, Try.ntmps4
        go_wp2_with (first
          | (go_at_call 16; (with_reducible refine (K.out _).mono ?_); rintro e w' ⟨rfl, rfl⟩)
          | (go_at_call 16; (with_reducible refine (D2.out _).mono ?_); rintro e w' ⟨rfl, rfl⟩)
          | (go_at_call 17; (with_reducible refine (D1.out _).mono ?_); rintro e w' ⟨rfl, rfl⟩)
          | (go_at_call 22; refine (daysBegun_any _).mono ?_; rintro e w' ⟨rfl, rfl⟩))
        go_ret
        exact ⟨rfl, Below.refl _ _⟩
    · have hlb : (n == 21914) = false := by simpa using hlast
      have hn3 : n < 21914 := by omega
      have hn' : isDay (n + 1) = true := (isDay_iff _).2 ⟨by omega, by omega⟩
      have D3 := Lib.hid (fun w => date_yes (n + 1) w hn')
      obtain ⟨v, hv⟩ : ∃ v, v = (n + 4) % 7 := ⟨_, rfl⟩
      obtain ⟨u, hu⟩ : ∃ u, u = (n + 1 + 4) % 7 := ⟨_, rfl⟩
      have W1 := Lib.hid (fun w => week_yes n w hn)
      have W2 := Lib.hid (fun w => week_yes (n + 1) w hn')
      rw [← hv] at W1
      rw [← hu] at W2
      have hvu : (u == (v + 1) % 7) = true := by simp; omega
      have hv0 : 0 ≤ v ∧ v ≤ 6 := by omega
      obtain ⟨hv1, hv2⟩ := hv0
      have hnext := next_date n hn1 hn3
      obtain ⟨dy1, dy2⟩ := yOf_bd n hn1 hn2
      have dd := (isDate_iff _ _ _).1 (date_of n hn).1
      have dm1 := dd.2.1.1
      have dm2 := dd.2.1.2
      have dsz := size_bd (yOf n) (mOf n) dm1 dm2
      have dd1 := dd.2.2.1
      have dd2 : dOf n ≤ 31 := by omega
      clear hlast hn hn' hv hu dd dsz
      rcases hcases (isDate y m d) with hd | hd
      · have eK : daysE y m d = 0 := daysE_ok hd
        have eN : daysN y m d = num y m d := by simp [daysN, hd]
        have D0 := Lib.hid (fun w => date_of_num y m d hd w)
        rw [eK, eN] at K
        clear eK eN hd
        rcases hnext with hx | ⟨hx, hx2⟩ | ⟨hx, hx2, hx3⟩
        · skip
          go_enter Try.func4, Try.ntmps4
          go_wp2_with (first
            | (go_at_call 16; (with_reducible refine (K.out _).mono ?_); rintro e w' ⟨rfl, rfl⟩)
            | (go_at_call 16; (with_reducible refine (D2.out _).mono ?_); rintro e w' ⟨rfl, rfl⟩)
            | (go_at_call 17; (with_reducible refine (D0.out _).mono ?_); rintro e w' ⟨rfl, rfl⟩)
            | (go_at_call 17; (with_reducible refine (D1.out _).mono ?_); rintro e w' ⟨rfl, rfl⟩)
            | (go_at_call 17; (with_reducible refine (D3.out _).mono ?_); rintro e w' ⟨rfl, rfl⟩)
            | (go_at_call 18; (with_reducible refine (W1.out _).mono ?_); rintro e w' ⟨rfl, rfl⟩)
            | (go_at_call 18; (with_reducible refine (W2.out _).mono ?_); rintro e w' ⟨rfl, rfl⟩)
            | (go_at_call 22; refine (daysBegun_any _).mono ?_; rintro e w' ⟨rfl, rfl⟩))
          go_ret
          exact ⟨rfl, Below.refl _ _⟩
        · have bx : (yOf (n + 1) == yOf n) = true := by simp [hx]
          have lx : ¬ yOf n < yOf (n + 1) := by omega
          clear hx
          go_enter Try.func4, Try.ntmps4
          go_wp2_with (first
            | (go_at_call 16; (with_reducible refine (K.out _).mono ?_); rintro e w' ⟨rfl, rfl⟩)
            | (go_at_call 16; (with_reducible refine (D2.out _).mono ?_); rintro e w' ⟨rfl, rfl⟩)
            | (go_at_call 17; (with_reducible refine (D0.out _).mono ?_); rintro e w' ⟨rfl, rfl⟩)
            | (go_at_call 17; (with_reducible refine (D1.out _).mono ?_); rintro e w' ⟨rfl, rfl⟩)
            | (go_at_call 17; (with_reducible refine (D3.out _).mono ?_); rintro e w' ⟨rfl, rfl⟩)
            | (go_at_call 18; (with_reducible refine (W1.out _).mono ?_); rintro e w' ⟨rfl, rfl⟩)
            | (go_at_call 18; (with_reducible refine (W2.out _).mono ?_); rintro e w' ⟨rfl, rfl⟩)
            | (go_at_call 22; refine (daysBegun_any _).mono ?_; rintro e w' ⟨rfl, rfl⟩))
          go_ret
          exact ⟨rfl, Below.refl _ _⟩
        · have bx : (yOf (n + 1) == yOf n) = true := by simp [hx]
          have lx : ¬ yOf n < yOf (n + 1) := by omega
          have bx2 : (mOf (n + 1) == mOf n) = true := by simp [hx2]
          have lx2 : ¬ mOf n < mOf (n + 1) := by omega
          have bx3 : (dOf (n + 1) == dOf n + 1) = true := by simp [hx3]
          clear hx hx2 hx3
          go_enter Try.func4, Try.ntmps4
          go_wp2_with (first
            | (go_at_call 16; (with_reducible refine (K.out _).mono ?_); rintro e w' ⟨rfl, rfl⟩)
            | (go_at_call 16; (with_reducible refine (D2.out _).mono ?_); rintro e w' ⟨rfl, rfl⟩)
            | (go_at_call 17; (with_reducible refine (D0.out _).mono ?_); rintro e w' ⟨rfl, rfl⟩)
            | (go_at_call 17; (with_reducible refine (D1.out _).mono ?_); rintro e w' ⟨rfl, rfl⟩)
            | (go_at_call 17; (with_reducible refine (D3.out _).mono ?_); rintro e w' ⟨rfl, rfl⟩)
            | (go_at_call 18; (with_reducible refine (W1.out _).mono ?_); rintro e w' ⟨rfl, rfl⟩)
            | (go_at_call 18; (with_reducible refine (W2.out _).mono ?_); rintro e w' ⟨rfl, rfl⟩)
            | (go_at_call 22; refine (daysBegun_any _).mono ?_; rintro e w' ⟨rfl, rfl⟩))
          go_ret
          exact ⟨rfl, Below.refl _ _⟩
      · have eK : daysE y m d = 3 := by simp [daysE, hd]
        rw [eK] at K
        clear eK hd
        rcases hnext with hx | ⟨hx, hx2⟩ | ⟨hx, hx2, hx3⟩
        · skip
          go_enter Try.func4, Try.ntmps4
          go_wp2_with (first
            | (go_at_call 16; (with_reducible refine (K.out _).mono ?_); rintro e w' ⟨rfl, rfl⟩)
            | (go_at_call 16; (with_reducible refine (D2.out _).mono ?_); rintro e w' ⟨rfl, rfl⟩)
            | (go_at_call 17; (with_reducible refine (D1.out _).mono ?_); rintro e w' ⟨rfl, rfl⟩)
            | (go_at_call 17; (with_reducible refine (D3.out _).mono ?_); rintro e w' ⟨rfl, rfl⟩)
            | (go_at_call 18; (with_reducible refine (W1.out _).mono ?_); rintro e w' ⟨rfl, rfl⟩)
            | (go_at_call 18; (with_reducible refine (W2.out _).mono ?_); rintro e w' ⟨rfl, rfl⟩)
            | (go_at_call 22; refine (daysBegun_any _).mono ?_; rintro e w' ⟨rfl, rfl⟩))
          go_ret
          exact ⟨rfl, Below.refl _ _⟩
        · have bx : (yOf (n + 1) == yOf n) = true := by simp [hx]
          have lx : ¬ yOf n < yOf (n + 1) := by omega
          clear hx
          go_enter Try.func4, Try.ntmps4
          go_wp2_with (first
            | (go_at_call 16; (with_reducible refine (K.out _).mono ?_); rintro e w' ⟨rfl, rfl⟩)
            | (go_at_call 16; (with_reducible refine (D2.out _).mono ?_); rintro e w' ⟨rfl, rfl⟩)
            | (go_at_call 17; (with_reducible refine (D1.out _).mono ?_); rintro e w' ⟨rfl, rfl⟩)
            | (go_at_call 17; (with_reducible refine (D3.out _).mono ?_); rintro e w' ⟨rfl, rfl⟩)
            | (go_at_call 18; (with_reducible refine (W1.out _).mono ?_); rintro e w' ⟨rfl, rfl⟩)
            | (go_at_call 18; (with_reducible refine (W2.out _).mono ?_); rintro e w' ⟨rfl, rfl⟩)
            | (go_at_call 22; refine (daysBegun_any _).mono ?_; rintro e w' ⟨rfl, rfl⟩))
          go_ret
          exact ⟨rfl, Below.refl _ _⟩
        · have bx : (yOf (n + 1) == yOf n) = true := by simp [hx]
          have lx : ¬ yOf n < yOf (n + 1) := by omega
          have bx2 : (mOf (n + 1) == mOf n) = true := by simp [hx2]
          have lx2 : ¬ mOf n < mOf (n + 1) := by omega
          have bx3 : (dOf (n + 1) == dOf n + 1) = true := by simp [hx3]
          clear hx hx2 hx3
          go_enter Try.func4, Try.ntmps4
          go_wp2_with (first
            | (go_at_call 16; (with_reducible refine (K.out _).mono ?_); rintro e w' ⟨rfl, rfl⟩)
            | (go_at_call 16; (with_reducible refine (D2.out _).mono ?_); rintro e w' ⟨rfl, rfl⟩)
            | (go_at_call 17; (with_reducible refine (D1.out _).mono ?_); rintro e w' ⟨rfl, rfl⟩)
            | (go_at_call 17; (with_reducible refine (D3.out _).mono ?_); rintro e w' ⟨rfl, rfl⟩)
            | (go_at_call 18; (with_reducible refine (W1.out _).mono ?_); rintro e w' ⟨rfl, rfl⟩)
            | (go_at_call 18; (with_reducible refine (W2.out _).mono ?_); rintro e w' ⟨rfl, rfl⟩)
            | (go_at_call 22; refine (daysBegun_any _).mono ?_; rintro e w' ⟨rfl, rfl⟩))
          go_ret
          exact ⟨rfl, Below.refl _ _⟩
  · have D1 := Lib.hid (fun w => date_no n w hn)
    clear hn
    rcases hcases (isDate y m d) with hd | hd
    · have eK : daysE y m d = 0 := daysE_ok hd
      have eN : daysN y m d = num y m d := by simp [daysN, hd]
      have D0 := Lib.hid (fun w => date_of_num y m d hd w)
      rw [eK, eN] at K
      clear eK eN hd
      go_enter Try.func4, Try.ntmps4
      go_wp2_with (first
        | (go_at_call 16; (with_reducible refine (K.out _).mono ?_); rintro e w' ⟨rfl, rfl⟩)
        | (go_at_call 17; (with_reducible refine (D0.out _).mono ?_); rintro e w' ⟨rfl, rfl⟩)
        | (go_at_call 17; (with_reducible refine (D1.out _).mono ?_); rintro e w' ⟨rfl, rfl⟩)
        | (go_at_call 22; refine (daysBegun_any _).mono ?_; rintro e w' ⟨rfl, rfl⟩))
      go_ret
      exact ⟨rfl, Below.refl _ _⟩
    · have eK : daysE y m d = 3 := by simp [daysE, hd]
      rw [eK] at K
      clear eK hd
      go_enter Try.func4, Try.ntmps4
      go_wp2_with (first
        | (go_at_call 16; (with_reducible refine (K.out _).mono ?_); rintro e w' ⟨rfl, rfl⟩)
        | (go_at_call 17; (with_reducible refine (D1.out _).mono ?_); rintro e w' ⟨rfl, rfl⟩)
        | (go_at_call 22; refine (daysBegun_any _).mono ?_; rintro e w' ⟨rfl, rfl⟩))
      go_ret
      exact ⟨rfl, Below.refl _ _⟩
end Go.Proofs.Ytlmphmfadikdpaa
