/- The reference's DaysOf and DateOf. -/
import Derived.Test.YtlmphmfadikdpaaDays4
set_option linter.unusedVariables false
namespace Go.Proofs.Ytlmphmfadikdpaa
open Go.RowKit Gno

theorem ret_int2 {k : IntKind} {a b : Int} {v : Value} (h : a = b) : Ending.returned (.tuple #[.int k a, v]) = .returned (.tuple #[.int k b, v]) := by rw [h]

theorem isMonth_iff (m : Int) : isMonth m = true ↔ 1 ≤ m ∧ m ≤ 12 := by simp [isMonth]
theorem isYear_iff (m : Int) : isYear m = true ↔ 1970 ≤ m ∧ m ≤ 2029 := by simp [isYear]

theorem daysOf_no (y m d : Int) (w : World) (h : isDate y m d = false) :
    Calls Try.prog 19 #[.int .i64 y, .int .i64 m, .int .i64 d] w fun e w' => e = .returned (.tuple #[.int .i64 0, .int .i64 3]) ∧ Below w.heap.size w w' := by
  have h' : ¬ ((1970 ≤ y ∧ y ≤ 2029) ∧ (1 ≤ m ∧ m ≤ 12) ∧ 1 ≤ d ∧ d ≤ size y m) := fun x => by
    rw [(isDate_iff y m d).2 x] at h; cases h
  clear h
  cases hy : isYear y
  · clear h'
    go_enter Try.func19, Try.ntmps19
    go_wp2_with (go_at_call 23; refine (isYearR_any _ _).mono ?_; rintro e w' ⟨rfl, rfl⟩)
    go_ret2
    exact ⟨rfl, Below.refl _ _⟩
  · cases hm : isMonth m
    · clear h'
      go_enter Try.func19, Try.ntmps19
      go_wp2_with (first
        | (go_at_call 23; refine (isYearR_any _ _).mono ?_; rintro e w' ⟨rfl, rfl⟩)
        | (go_at_call 46; refine (isMonthR_any _ _).mono ?_; rintro e w' ⟨rfl, rfl⟩))
      go_ret2
      exact ⟨rfl, Below.refl _ _⟩
    · have y' := (isYear_iff y).1 hy
      have m' := (isMonth_iff m).1 hm
      have hd : withinB d 1 (size y m) = false := (withinB_no _ _ _).2 (by omega)
      have b := size_bd y m m'.1 m'.2
      clear h'
      go_enter Try.func19, Try.ntmps19
      go_wp2_with (first
        | (go_at_call 23; refine (isYearR_any _ _).mono ?_; rintro e w' ⟨rfl, rfl⟩)
        | (go_at_call 46; refine (isMonthR_any _ _).mono ?_; rintro e w' ⟨rfl, rfl⟩)
        | (go_at_call 48; refine (monthDays_any _ _ _ y'.1 y'.2 m'.1 m'.2).mono ?_; rintro e w1 ⟨rfl, hb1⟩)
        | (go_at_call 47; refine (within_any _ _ _ _).mono ?_; rintro e w' ⟨rfl, rfl⟩))
      go_ret2
      exact ⟨rfl, hb1⟩

set_option maxHeartbeats 1000000 in
theorem daysOf_yes (y m d : Int) (w : World) (h : isDate y m d = true) :
    Calls Try.prog 19 #[.int .i64 y, .int .i64 m, .int .i64 d] w fun e w' => e = .returned (.tuple #[.int .i64 (num y m d), .int .i64 0]) ∧ Below w.heap.size w w' := by
  obtain ⟨⟨y1, y2⟩, ⟨m1, m2⟩, d1, d2⟩ := (isDate_iff y m d).1 h
  have hy := (isYear_iff y).2 ⟨y1, y2⟩
  have hm := (isMonth_iff m).2 ⟨m1, m2⟩
  have hd := (withinB_iff d 1 (size y m)).2 ⟨d1, d2⟩
  have b := size_bd y m m1 m2
  clear h
  go_enter Try.func19, Try.ntmps19
  go_wp2_with (first
    | (go_at_call 23; refine (isYearR_any _ _).mono ?_; rintro e w' ⟨rfl, rfl⟩)
    | (go_at_call 46; refine (isMonthR_any _ _).mono ?_; rintro e w' ⟨rfl, rfl⟩)
    | (go_at_call 48; refine (monthDays_any _ _ _ y1 y2 m1 m2).mono ?_; rintro e w1 ⟨rfl, hb1⟩)
    | (go_at_call 47; refine (within_any _ _ _ _).mono ?_; rintro e w' ⟨rfl, rfl⟩))
  go_loop [8, 9] (fun n t => ∃ k : Int, 1970 ≤ k ∧ k ≤ y ∧ t = .int .i64 k ∧ n = .int .i64 (d - 1 + begin_ k)) (fun _ t => (y - intOf t).toNat)
  case atStart => exact ⟨1970, by omega, y1, rfl, by simp [begin_1970]⟩
  case round =>
    obtain ⟨k, k1, k2, rfl, rfl⟩ := hrel
    have c := begin_bd k k1 (by omega)
    by_cases hk : k < y
    · have hs := Lib.hid (begin_succ k)
      have hyd := Lib.hid (yearDays_is k)
      have hl := lp_01 k
      have hyb : 365 ≤ yearDays k ∧ yearDays k ≤ 366 := by have := yearDays_is k; omega
      go_wp2_with (go_at_call 49; refine (yearDays_any _ _ k1 (by omega)).mono ?_; rintro e w' ⟨rfl, rfl⟩)
      go_round
      case rel => exact ⟨k + 1, by omega, by omega, rfl, by rw [hs.out, hyd.out]; go_num⟩
      case measure => simp [intOf]; omega
    · obtain rfl : k = y := by omega
      clear hk k1 k2
      go_wp2
      go_loopw [8, 10] (fun n t wr => ∃ j : Int, 1 ≤ j ∧ j ≤ m ∧ t = .int .i64 j ∧ n = .int .i64 (d - 1 + begin_ k + aheadY k j) ∧ Below w.heap.size w wr) (fun _ t _ => (m - intOf t).toNat)
      case atStart => exact ⟨1, by omega, m1, rfl, by simp [aheadY_one], hb1⟩
      case round =>
        obtain ⟨j, j1, j2, rfl, rfl, hb2⟩ := hrel
        have c2 := aheadY_bd k j
        by_cases hj : j < m
        · have hs := Lib.hid (aheadY_succ k j)
          have hsb := size_bd k j (by omega) (by omega)
          go_wp2_with (go_at_call 48; refine (monthDays_any _ _ _ y1 y2 (by omega) (by omega)).mono ?_; rintro e w2 ⟨rfl, hb3⟩)
          go_roundw
          case rel => exact ⟨j + 1, by omega, by omega, rfl, by rw [hs.out]; go_num, hb2.trans (hb3.mono hb2.size)⟩
          case measure => simp [intOf]; omega
        · obtain rfl : j = m := by omega
          go_wp2
          go_ret2
          exact ⟨ret_int2 (by unfold num; omega), hb2⟩

theorem dateOf_no (n : Int) (w : World) (h : isDay n = false) :
    Calls Try.prog 20 #[.int .i64 n] w fun e w' => e = .returned (.tuple #[.int .i64 0, .int .i64 0, .int .i64 0, .int .i64 3]) ∧ Below w.heap.size w w' := by
  have hd : withinB n 0 21914 = false := h
  clear h
  go_enter Try.func20, Try.ntmps20
  go_wp2_with (go_at_call 47; refine (within_any _ _ _ _).mono ?_; rintro e w' ⟨rfl, rfl⟩)
  refine bodyPost_ret (results_tmp4 rfl _ _ _) rfl ?_
  exact ⟨rfl, Below.refl _ _⟩

theorem dOf_is (n y m : Int) (hy : yOf n = y) (hm : mOf n = m) : dOf n = n - begin_ y - aheadY y m + 1 := by unfold dOf; rw [hm, hy]

set_option maxHeartbeats 1000000 in
theorem dateOf_yes (n : Int) (w : World) (h : isDay n = true) :
    Calls Try.prog 20 #[.int .i64 n] w fun e w' => e = .returned (.tuple #[.int .i64 (yOf n), .int .i64 (mOf n), .int .i64 (dOf n), .int .i64 0]) ∧ Below w.heap.size w w' := by
  obtain ⟨h1, h2⟩ := (isDay_iff n).1 h
  have hd : withinB n 0 21914 = true := h
  clear h
  obtain ⟨y1, y2⟩ := yOf_bd n h1 h2
  have b1 := yOf_le n
  have b2 := yOf_lt n
  go_enter Try.func20, Try.ntmps20
  go_wp2_with (go_at_call 47; refine (within_any _ _ _ _).mono ?_; rintro e w' ⟨rfl, rfl⟩)
  go_loop [0, 6] (fun r t => ∃ y : Int, 1970 ≤ y ∧ y ≤ yOf n ∧ t = .int .i64 y ∧ r = .int .i64 (n - begin_ y)) (fun _ t => (2029 - intOf t).toNat)
  case atStart => exact ⟨1970, by omega, y1, rfl, by simp [begin_1970]⟩
  case round =>
    obtain ⟨y, hy1, hy2, rfl, rfl⟩ := hrel
    have hyd := yearDays_is y
    have hs := begin_succ y
    have hl := lp_01 y
    have c := begin_bd y hy1 (by omega)
    have hyb : 365 ≤ yearDays y ∧ yearDays y ≤ 366 := by omega
    by_cases hc : y < yOf n
    · have hm : begin_ (y + 1) ≤ n := Int.le_trans (begin_mono (by omega)) b1
      have ht : yearDays y ≤ n - begin_ y := by omega
      have HN := Lib.hid (show n - begin_ (y + 1) = n - begin_ y - yearDays y by omega)
      clear b1 b2 hyd hs hm
      go_wp2_with (go_at_call 49; refine (yearDays_any _ _ hy1 (by omega)).mono ?_; rintro e w' ⟨rfl, rfl⟩)
      go_round
      case rel => exact ⟨y + 1, by omega, by omega, rfl, by rw [HN.out]⟩
      case measure => simp [intOf]; omega
    · obtain hyy : y = yOf n := by omega
      have ht : ¬ yearDays y ≤ n - begin_ y := by rw [← hyy] at b2; omega
      have hr0 : 0 ≤ n - begin_ y := by rw [← hyy] at b1; omega
      have hr1 : n - begin_ y < 365 + lp y := by rw [← hyy] at b2; omega
      obtain ⟨s1, s2, s3, s4⟩ := mOfIn_spec y (n - begin_ y) hr0 hr1
      have HM := Lib.hid (show mOfIn y (n - begin_ y) = mOf n by unfold mOf; rw [← hyy])
      have HY := Lib.hid hyy.symm
      have hy3 : y ≤ 2029 := by omega
      clear b1 b2 hyd hs hc hyy y1 y2 hd h1 h2 hy2
      go_wp2_with (go_at_call 49; refine (yearDays_any _ _ hy1 (by omega)).mono ?_; rintro e w' ⟨rfl, rfl⟩)
      go_loopw [0, 7] (fun r t wr => ∃ j : Int, 1 ≤ j ∧ j ≤ mOfIn y (n - begin_ y) ∧ t = .int .i64 j ∧ r = .int .i64 (n - begin_ y - aheadY y j) ∧ Below w.heap.size w wr) (fun _ t _ => (12 - intOf t).toNat)
      case atStart => exact ⟨1, by omega, s1, rfl, by simp [aheadY_one], Below.refl _ _⟩
      case round =>
        obtain ⟨j, j1, j2, rfl, rfl, hb2⟩ := hrel
        have c2 := aheadY_bd y j
        have hsb := size_bd y j (by omega) (by omega)
        have hs := aheadY_succ y j
        by_cases hj : j < mOfIn y (n - begin_ y)
        · have hm := aheadY_mono y (j + 1) (mOfIn y (n - begin_ y)) (by omega) (by omega) (by omega)
          have ht2 : size y j ≤ n - begin_ y - aheadY y j := by omega
          have HN := Lib.hid (show n - begin_ y - aheadY y (j + 1) = n - begin_ y - aheadY y j - size y j by omega)
          clear hs hm
          go_wp2_with (first
            | (go_at_call 48; refine (monthDays_any _ _ _ hy1 (by omega) (by omega) (by omega)).mono ?_; rintro e w2 ⟨rfl, hb3⟩; have hb4 := hb2.trans (hb3.mono hb2.size); clear hb2 hb3; have hb2 := hb4; clear hb4))
          go_roundw
          case rel => exact ⟨j + 1, by omega, by omega, rfl, by rw [HN.out], hb2⟩
          case measure => simp [intOf]; omega
        · have hje : j = mOfIn y (n - begin_ y) := by omega
          have ht2 : ¬ size y j ≤ n - begin_ y - aheadY y j := by rw [← hje] at s4; omega
          have s3' : 0 ≤ n - begin_ y - aheadY y j := by rw [← hje] at s3; omega
          have HJ := Lib.hid (show mOf n = j by rw [← HM.out, hje])
          have j3 : j ≤ 12 := by omega
          clear hs hj hje s1 s2 s3 s4 j2
          go_wp2_with (first
            | (go_at_call 48; refine (monthDays_any _ _ _ hy1 (by omega) (by omega) (by omega)).mono ?_; rintro e w2 ⟨rfl, hb3⟩; have hb4 := hb2.trans (hb3.mono hb2.size); clear hb2 hb3; have hb2 := hb4; clear hb4))
          refine bodyPost_ret (results_tmp4 rfl _ _ _) rfl ?_
          exact ⟨by rw [dOf_is n y j HY.out HJ.out, HY.out, HJ.out]; rfl, hb2⟩

end Go.Proofs.Ytlmphmfadikdpaa
