/- The walk of days.Date; the reference's leaves. -/
import Derived.Test.YtlmphmfadikdpaaDays2
set_option linter.unusedVariables false
namespace Go.Proofs.Ytlmphmfadikdpaa
open Go.RowKit Gno

theorem results_tmp4 {fn : Func} {t u v x : Tmp} (h : fn.results = #[.tmp t, .tmp u, .tmp v, .tmp x]) (tmps : Array Value) (P : Program) (w : World) :
    (results fn tmps).run P w = .ok (.tuple #[tmps.getD t undef, tmps.getD u undef, tmps.getD v undef, tmps.getD x undef]) w := by simp [results, h]

theorem date_no (n : Int) (w : World) (h : isDay n = false) :
    Calls Try.prog 17 #[.int .i64 n] w fun e w' => e = .returned (.tuple #[.int .i64 0, .int .i64 0, .int .i64 0, .int .i64 3]) ∧ w = w' := by
  have h' : n < 0 ∨ 21914 < n := by
    rcases Int.lt_or_le n 0 with h0 | h0
    · exact .inl h0
    · rcases Int.lt_or_le 21914 n with h1 | h1
      · exact .inr h1
      · rw [(isDay_iff n).2 ⟨h0, h1⟩] at h; cases h
  clear h
  rcases h' with h' | h'
  · go_enter Try.func17, Try.ntmps17
    go_wp2
    refine bodyPost_ret (results_tmp4 rfl _ _ _) rfl ?_
    exact ⟨rfl, rfl⟩
  · have h0 : ¬ n < 0 := by omega
    go_enter Try.func17, Try.ntmps17
    go_wp2
    refine bodyPost_ret (results_tmp4 rfl _ _ _) rfl ?_
    exact ⟨rfl, rfl⟩

theorem yOf_guess (n : Int) (h1 : 0 ≤ n) : 1970 ≤ 1970 + n / 366 ∧ 1970 + n / 366 ≤ yOf n := by unfold yOf; omega

set_option maxHeartbeats 1000000 in
theorem date_yes (n : Int) (w : World) (h : isDay n = true) :
    Calls Try.prog 17 #[.int .i64 n] w fun e w' => e = .returned (.tuple #[.int .i64 (yOf n), .int .i64 (mOf n), .int .i64 (dOf n), .int .i64 0]) ∧ w = w' := by
  obtain ⟨h1, h2⟩ := (isDay_iff n).1 h
  clear h
  obtain ⟨g1, g2⟩ := yOf_guess n h1
  obtain ⟨y1, y2⟩ := yOf_bd n h1 h2
  have b1 := yOf_le n
  have b2 := yOf_lt n
  go_enter Try.func17, Try.ntmps17
  go_wp2
  go_loop [6] (fun t => ∃ y : Int, 1970 ≤ y ∧ y ≤ yOf n ∧ t = .int .i64 y) (fun t => (2029 - intOf t).toNat)
  case atStart => exact ⟨_, g1, g2, rfl⟩
  case round =>
    obtain ⟨y, hy1, hy2, rfl⟩ := hrel
    clear g1 g2
    by_cases hc : y < yOf n
    · have hm : begin_ (y + 1) ≤ n := Int.le_trans (begin_mono (by omega)) b1
      clear b1 b2
      go_wp2_with (go_at_call 44; refine (begin_any _ _ (by omega) (by omega)).mono ?_; rintro e w' ⟨rfl, rfl⟩)
      go_round
      case rel => exact ⟨y + 1, by omega, by omega, rfl⟩
      case measure => simp [intOf]; omega
    · obtain rfl : y = yOf n := by omega
      have hm : n < begin_ (yOf n + 1) := b2
      rw [begin_succ] at b2
      have hb := begin_bd (yOf n) (by omega) (by omega)
      obtain ⟨m1, m2, m3, m4⟩ := guess_month (yOf n) (n - begin_ (yOf n)) (by omega) (by omega)
      have c1 := aheadY_bd (yOf n) ((n - begin_ (yOf n)) / 31 + 1 + 1)
      have c2 := aheadY_bd (yOf n) ((n - begin_ (yOf n)) / 31 + 1)
      have hl := lp_01 (yOf n)
      have hr : 0 ≤ n - begin_ (yOf n) ∧ n - begin_ (yOf n) ≤ 366 := by omega
      obtain ⟨hr1, hr2⟩ := hr
      clear hc b1 b2
      by_cases hc : aheadY (yOf n) ((n - begin_ (yOf n)) / 31 + 1 + 1) ≤ n - begin_ (yOf n)
      · have hM := Lib.hid (m3 hc)
        have hm12 : (n - begin_ (yOf n)) / 31 + 1 + 1 ≤ 12 := by
          have hs := mOfIn_spec (yOf n) (n - begin_ (yOf n)) hr1 (by have := begin_succ (yOf n); omega)
          rw [hM.out] at hs
          exact hs.2.1
        clear m3 m4
        go_wp2_with (first
          | (go_at_call 44; refine (begin_any _ _ (by omega) (by omega)).mono ?_; rintro e w' ⟨rfl, rfl⟩)
          | (go_at_call 45; refine (ahead_any _ _ _ (by omega) (by omega) (by omega) (by omega)).mono ?_; rintro e w' ⟨rfl, rfl⟩))
        refine bodyPost_ret (results_tmp4 rfl _ _ _) rfl ?_
        exact ⟨by unfold dOf mOf; rw [hM.out]; rfl, rfl⟩
      · have hM := Lib.hid (m4 hc)
        clear m3 m4
        go_wp2_with (first
          | (go_at_call 44; refine (begin_any _ _ (by omega) (by omega)).mono ?_; rintro e w' ⟨rfl, rfl⟩)
          | (go_at_call 45; refine (ahead_any _ _ _ (by omega) (by omega) (by omega) (by omega)).mono ?_; rintro e w' ⟨rfl, rfl⟩))
        refine bodyPost_ret (results_tmp4 rfl _ _ _) rfl ?_
        exact ⟨by unfold dOf mOf; rw [hM.out]; rfl, rfl⟩

end Go.Proofs.Ytlmphmfadikdpaa
