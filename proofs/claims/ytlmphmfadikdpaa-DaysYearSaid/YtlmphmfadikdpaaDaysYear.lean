/- The walk of DaysYear. -/
import Derived.Test.YtlmphmfadikdpaaDays6
import Derived.Test.YtlmphmfadikdpaaPlain3
namespace Go.Proofs.Ytlmphmfadikdpaa
open Go.RowKit Gno

set_option maxRecDepth 100000 in
set_option maxHeartbeats 4000000 in
theorem daysYear_walk (y m d : Int) (w : World) :
    Calls Try.prog 5 #[.int .i64 y, .int .i64 m, .int .i64 d] w fun e w' => e = .returned (.bool true) ∧ Below w.heap.size w w' := by
  have hcases : ∀ b : Bool, b = true ∨ b = false := by decide
  rcases hcases (isDate y m d) with hd | hd
  · have K1 := Lib.hid (fun w => days_yes y m d w hd)
    obtain ⟨⟨y1, y2⟩, ⟨m1, m2⟩, d1, d2⟩ := (isDate_iff _ _ _).1 hd
    have hnd := (isDay_iff _).1 (day_of y m d hd).1
    obtain ⟨nb1, nb2⟩ := hnd
    by_cases hy : y = 2029
    · have hyb : (y == 2029) = true := by simp [hy]
      have hy3 : 2029 ≤ y := by omega
      clear hy hd
      go_enter Try.func5, Try.ntmps5
      go_wp2_with (first
        | (go_at_call 16; (with_reducible refine (K1.out _).mono ?_); rintro e w' ⟨rfl, rfl⟩)
        | (go_at_call 22; refine (daysBegun_any _).mono ?_; rintro e w' ⟨rfl, rfl⟩))
      go_ret
      exact ⟨rfl, Below.refl _ _⟩
    · have hy3 : y < 2029 := by omega
      have hl1 : isYear y = true := (isYear_iff y).2 ⟨y1, y2⟩
      have hl2 : isYear (y + 1) = true := (isYear_iff (y + 1)).2 ⟨by omega, by omega⟩
      have L1 := Lib.hid (fun w => leap_yes y w hl1)
      have L2 := Lib.hid (fun w => leap_yes (y + 1) w hl2)
      have hsz := size_is y m m1 m2
      have hsz' := size_is (y + 1) m m1 m2
      have hyo := year_on y m d
      have l1 := lp_01 y
      have l2 := lp_01 (y + 1)
      have lb1 : (y % 4 == 0) = decide (lp y = 1) := by unfold lp; by_cases h : y % 4 = 0 <;> simp [h]
      have lb2 : ((y + 1) % 4 == 0) = decide (lp (y + 1) = 1) := by unfold lp; by_cases h : (y + 1) % 4 = 0 <;> simp [h]
      clear hl1 hl2 hy hd
      by_cases hm : m = 2 ∧ d = 29
      · -- a leap day: the next year has none
        obtain ⟨hm1, hm2⟩ := hm
        rw [if_pos hm1] at hsz hsz'
        have hly : lp y = 1 := by omega
        have hly2 : lp (y + 1) = 0 := by
          unfold lp at hly ⊢
          split at hly
          · rw [if_neg (by omega)]
          · omega
        have hd2 : isDate (y + 1) m d = false := by
          cases h : isDate (y + 1) m d
          · rfl
          · have := (isDate_iff _ _ _).1 h
            omega
        have K2 := Lib.hid (fun w => days_no (y + 1) m d w hd2)
        have bm : (m == 2) = true := by simp [hm1]
        have bd : (d == 29) = true := by simp [hm2]
        have bl : (y % 4 == 0) = true := by rw [lb1, hly]; rfl
        have bl2 : ((y + 1) % 4 == 0) = false := by rw [lb2, hly2]; rfl
        clear lb1 lb2 hly hly2 hm1 hm2 hsz hsz' hyo l1 l2 hd2
        go_enter Try.func5, Try.ntmps5
        go_wp2_with (first
          | (go_at_call 16; (with_reducible refine (K1.out _).mono ?_); rintro e w' ⟨rfl, rfl⟩)
          | (go_at_call 16; (with_reducible refine (K2.out _).mono ?_); rintro e w' ⟨rfl, rfl⟩)
          | (go_at_call 15; (with_reducible refine (L1.out _).mono ?_); rintro e w' ⟨rfl, rfl⟩)
          | (go_at_call 15; (with_reducible refine (L2.out _).mono ?_); rintro e w' ⟨rfl, rfl⟩)
          | (go_at_call 22; refine (daysBegun_any _).mono ?_; rintro e w' ⟨rfl, rfl⟩))
        go_ret
        exact ⟨rfl, Below.refl _ _⟩
      · have hd2 : isDate (y + 1) m d = true := by
          refine (isDate_iff _ _ _).2 ⟨⟨by omega, by omega⟩, ⟨m1, m2⟩, d1, ?_⟩
          by_cases h2 : m = 2
          · rw [if_pos h2] at hsz hsz'
            omega
          · rw [if_neg h2] at hsz hsz'
            omega
        have K2 := Lib.hid (fun w => days_yes (y + 1) m d w hd2)
        have hnd2 := (isDay_iff _).1 (day_of (y + 1) m d hd2).1
        obtain ⟨nc1, nc2⟩ := hnd2
        have bmd : (m == 2) = false ∨ (m == 2) = true ∧ (d == 29) = false := by
          by_cases h2 : m = 2
          · refine .inr ⟨by simp [h2], ?_⟩
            have : d ≠ 29 := fun h => hm ⟨h2, h⟩
            simp [this]
          · exact .inl (by simp [h2])
        have e0 : ∀ t : Int, num (y + 1) m d - num y m d = t → (num (y + 1) m d - num y m d == t) = true := fun t h => by simp [h]
        clear hsz hsz' hd2 hm
        rcases (by omega : (lp y = 1 ∨ lp y = 0)) with a1 | a1 <;> rcases (by omega : (lp (y + 1) = 1 ∨ lp (y + 1) = 0)) with a2 | a2 <;> rcases (by omega : (2 < m ∨ m ≤ 2)) with a3 | a3
        · have bl : (y % 4 == 0) = true := by rw [lb1, a1]; rfl
          have bl2 : ((y + 1) % 4 == 0) = true := by rw [lb2, a2]; rfl
          have be := e0 366 (by rw [hyo]; split <;> omega)
          clear lb1 lb2 a1 a2 hyo l1 l2 e0
          rcases bmd with bm | ⟨bm, bd⟩
          all_goals
            go_enter Try.func5, Try.ntmps5
            go_wp2_with (first
              | (go_at_call 16; (with_reducible refine (K1.out _).mono ?_); rintro e w' ⟨rfl, rfl⟩)
              | (go_at_call 16; (with_reducible refine (K2.out _).mono ?_); rintro e w' ⟨rfl, rfl⟩)
              | (go_at_call 15; (with_reducible refine (L1.out _).mono ?_); rintro e w' ⟨rfl, rfl⟩)
              | (go_at_call 15; (with_reducible refine (L2.out _).mono ?_); rintro e w' ⟨rfl, rfl⟩)
              | (go_at_call 22; refine (daysBegun_any _).mono ?_; rintro e w' ⟨rfl, rfl⟩))
            go_ret
            exact ⟨rfl, Below.refl _ _⟩
        · have bl : (y % 4 == 0) = true := by rw [lb1, a1]; rfl
          have bl2 : ((y + 1) % 4 == 0) = true := by rw [lb2, a2]; rfl
          have be := e0 366 (by rw [hyo]; split <;> omega)
          clear lb1 lb2 a1 a2 hyo l1 l2 e0
          rcases bmd with bm | ⟨bm, bd⟩
          all_goals
            go_enter Try.func5, Try.ntmps5
            go_wp2_with (first
              | (go_at_call 16; (with_reducible refine (K1.out _).mono ?_); rintro e w' ⟨rfl, rfl⟩)
              | (go_at_call 16; (with_reducible refine (K2.out _).mono ?_); rintro e w' ⟨rfl, rfl⟩)
              | (go_at_call 15; (with_reducible refine (L1.out _).mono ?_); rintro e w' ⟨rfl, rfl⟩)
              | (go_at_call 15; (with_reducible refine (L2.out _).mono ?_); rintro e w' ⟨rfl, rfl⟩)
              | (go_at_call 22; refine (daysBegun_any _).mono ?_; rintro e w' ⟨rfl, rfl⟩))
            go_ret
            exact ⟨rfl, Below.refl _ _⟩
        · have bl : (y % 4 == 0) = true := by rw [lb1, a1]; rfl
          have bl2 : ((y + 1) % 4 == 0) = false := by rw [lb2, a2]; rfl
          have be := e0 365 (by rw [hyo]; split <;> omega)
          clear lb1 lb2 a1 a2 hyo l1 l2 e0
          rcases bmd with bm | ⟨bm, bd⟩
          all_goals
            go_enter Try.func5, Try.ntmps5
            go_wp2_with (first
              | (go_at_call 16; (with_reducible refine (K1.out _).mono ?_); rintro e w' ⟨rfl, rfl⟩)
              | (go_at_call 16; (with_reducible refine (K2.out _).mono ?_); rintro e w' ⟨rfl, rfl⟩)
              | (go_at_call 15; (with_reducible refine (L1.out _).mono ?_); rintro e w' ⟨rfl, rfl⟩)
              | (go_at_call 15; (with_reducible refine (L2.out _).mono ?_); rintro e w' ⟨rfl, rfl⟩)
              | (go_at_call 22; refine (daysBegun_any _).mono ?_; rintro e w' ⟨rfl, rfl⟩))
            go_ret
            exact ⟨rfl, Below.refl _ _⟩
        · have bl : (y % 4 == 0) = true := by rw [lb1, a1]; rfl
          have bl2 : ((y + 1) % 4 == 0) = false := by rw [lb2, a2]; rfl
          have be := e0 366 (by rw [hyo]; split <;> omega)
          clear lb1 lb2 a1 a2 hyo l1 l2 e0
          rcases bmd with bm | ⟨bm, bd⟩
          all_goals
            go_enter Try.func5, Try.ntmps5
            go_wp2_with (first
              | (go_at_call 16; (with_reducible refine (K1.out _).mono ?_); rintro e w' ⟨rfl, rfl⟩)
              | (go_at_call 16; (with_reducible refine (K2.out _).mono ?_); rintro e w' ⟨rfl, rfl⟩)
              | (go_at_call 15; (with_reducible refine (L1.out _).mono ?_); rintro e w' ⟨rfl, rfl⟩)
              | (go_at_call 15; (with_reducible refine (L2.out _).mono ?_); rintro e w' ⟨rfl, rfl⟩)
              | (go_at_call 22; refine (daysBegun_any _).mono ?_; rintro e w' ⟨rfl, rfl⟩))
            go_ret
            exact ⟨rfl, Below.refl _ _⟩
        · have bl : (y % 4 == 0) = false := by rw [lb1, a1]; rfl
          have bl2 : ((y + 1) % 4 == 0) = true := by rw [lb2, a2]; rfl
          have be := e0 366 (by rw [hyo]; split <;> omega)
          clear lb1 lb2 a1 a2 hyo l1 l2 e0
          rcases bmd with bm | ⟨bm, bd⟩
          all_goals
            go_enter Try.func5, Try.ntmps5
            go_wp2_with (first
              | (go_at_call 16; (with_reducible refine (K1.out _).mono ?_); rintro e w' ⟨rfl, rfl⟩)
              | (go_at_call 16; (with_reducible refine (K2.out _).mono ?_); rintro e w' ⟨rfl, rfl⟩)
              | (go_at_call 15; (with_reducible refine (L1.out _).mono ?_); rintro e w' ⟨rfl, rfl⟩)
              | (go_at_call 15; (with_reducible refine (L2.out _).mono ?_); rintro e w' ⟨rfl, rfl⟩)
              | (go_at_call 22; refine (daysBegun_any _).mono ?_; rintro e w' ⟨rfl, rfl⟩))
            go_ret
            exact ⟨rfl, Below.refl _ _⟩
        · have bl : (y % 4 == 0) = false := by rw [lb1, a1]; rfl
          have bl2 : ((y + 1) % 4 == 0) = true := by rw [lb2, a2]; rfl
          have be := e0 365 (by rw [hyo]; split <;> omega)
          clear lb1 lb2 a1 a2 hyo l1 l2 e0
          rcases bmd with bm | ⟨bm, bd⟩
          all_goals
            go_enter Try.func5, Try.ntmps5
            go_wp2_with (first
              | (go_at_call 16; (with_reducible refine (K1.out _).mono ?_); rintro e w' ⟨rfl, rfl⟩)
              | (go_at_call 16; (with_reducible refine (K2.out _).mono ?_); rintro e w' ⟨rfl, rfl⟩)
              | (go_at_call 15; (with_reducible refine (L1.out _).mono ?_); rintro e w' ⟨rfl, rfl⟩)
              | (go_at_call 15; (with_reducible refine (L2.out _).mono ?_); rintro e w' ⟨rfl, rfl⟩)
              | (go_at_call 22; refine (daysBegun_any _).mono ?_; rintro e w' ⟨rfl, rfl⟩))
            go_ret
            exact ⟨rfl, Below.refl _ _⟩
        · have bl : (y % 4 == 0) = false := by rw [lb1, a1]; rfl
          have bl2 : ((y + 1) % 4 == 0) = false := by rw [lb2, a2]; rfl
          have be := e0 365 (by rw [hyo]; split <;> omega)
          clear lb1 lb2 a1 a2 hyo l1 l2 e0
          rcases bmd with bm | ⟨bm, bd⟩
          all_goals
            go_enter Try.func5, Try.ntmps5
            go_wp2_with (first
              | (go_at_call 16; (with_reducible refine (K1.out _).mono ?_); rintro e w' ⟨rfl, rfl⟩)
              | (go_at_call 16; (with_reducible refine (K2.out _).mono ?_); rintro e w' ⟨rfl, rfl⟩)
              | (go_at_call 15; (with_reducible refine (L1.out _).mono ?_); rintro e w' ⟨rfl, rfl⟩)
              | (go_at_call 15; (with_reducible refine (L2.out _).mono ?_); rintro e w' ⟨rfl, rfl⟩)
              | (go_at_call 22; refine (daysBegun_any _).mono ?_; rintro e w' ⟨rfl, rfl⟩))
            go_ret
            exact ⟨rfl, Below.refl _ _⟩
        · have bl : (y % 4 == 0) = false := by rw [lb1, a1]; rfl
          have bl2 : ((y + 1) % 4 == 0) = false := by rw [lb2, a2]; rfl
          have be := e0 365 (by rw [hyo]; split <;> omega)
          clear lb1 lb2 a1 a2 hyo l1 l2 e0
          rcases bmd with bm | ⟨bm, bd⟩
          all_goals
            go_enter Try.func5, Try.ntmps5
            go_wp2_with (first
              | (go_at_call 16; (with_reducible refine (K1.out _).mono ?_); rintro e w' ⟨rfl, rfl⟩)
              | (go_at_call 16; (with_reducible refine (K2.out _).mono ?_); rintro e w' ⟨rfl, rfl⟩)
              | (go_at_call 15; (with_reducible refine (L1.out _).mono ?_); rintro e w' ⟨rfl, rfl⟩)
              | (go_at_call 15; (with_reducible refine (L2.out _).mono ?_); rintro e w' ⟨rfl, rfl⟩)
              | (go_at_call 22; refine (daysBegun_any _).mono ?_; rintro e w' ⟨rfl, rfl⟩))
            go_ret
            exact ⟨rfl, Below.refl _ _⟩
  · have K1 := Lib.hid (fun w => days_no y m d w hd)
    clear hd
    go_enter Try.func5, Try.ntmps5
    go_wp2_with (first
      | (go_at_call 16; (with_reducible refine (K1.out _).mono ?_); rintro e w' ⟨rfl, rfl⟩)
      | (go_at_call 22; refine (daysBegun_any _).mono ?_; rintro e w' ⟨rfl, rfl⟩))
    go_ret
    exact ⟨rfl, Below.refl _ _⟩
end Go.Proofs.Ytlmphmfadikdpaa
