/- The walk of the reference's CheckRule. -/
import Derived.Test.YtlmphmfadikdpaaRules
set_option linter.unusedVariables false
namespace Go.Proofs.Ytlmphmfadikdpaa
open Go.RowKit Gno

set_option maxRecDepth 100000 in
set_option maxHeartbeats 4000000 in
theorem checkRule_any (fy ty mo k wk d a sv : Int) (le : ByteArray) (w : World) (hle : le.size ≤ maxLen) :
    Calls Try.prog 39 #[.agg #[.int .i64 fy, .int .i64 ty, .int .i64 mo, .int .i64 k, .int .i64 wk, .int .i64 d, .int .i64 a, .int .i64 sv, .string le]] w fun e w' => e = .returned (.int .i64 (ruleE fy ty mo k wk d a sv le)) ∧ Below w.heap.size w w' := by
  have hle' : le.size ≤ 9223372036854775807 := hle
  have hcases : ∀ b : Bool, b = true ∨ b = false := by decide
  rcases hcases (ruleBasic fy ty mo a sv) with hB | hB
  · obtain ⟨b1, b2, b3, ⟨b4, b5⟩, ⟨b6, b7⟩, b8, b9⟩ := (ruleBasic_iff _ _ _ _ _).1 hB
    have g1 : isYear fy = true := (isYear_iff _).2 ⟨by omega, by omega⟩
    have g2 : isYear ty = true := (isYear_iff _).2 ⟨by omega, by omega⟩
    have g3 : isMonth mo = true := (isMonth_iff _).2 ⟨b4, b5⟩
    have g4 : withinB a 0 86400 = true := (withinB_iff _ _ _).2 ⟨b6, b7⟩
    have g5 : withinB sv 0 7200 = true := (withinB_iff _ _ _).2 ⟨b8, b9⟩
    by_cases ho : onE k wk d = 0
    · have hob : (onE k wk d != 0) = false := by simpa using ho
      rcases hcases (letOk le) with hL | hL
      · have hL2 : le.size ≤ 12 ∧ allLet le = true := by simpa [letOk] using hL
        obtain ⟨l1, l2⟩ := hL2
        have RY := Lib.hid (fun y h1 h2 h3 => ruleE_year (fy := fy) (ty := ty) (mo := mo) (k := k) (wk := wk) (d := d) (a := a) (sv := sv) (le := le) hB ho hL (y := y) h1 h2 h3)
        have RO := Lib.hid (ruleE_ok (fy := fy) (ty := ty) (mo := mo) (k := k) (wk := wk) (d := d) (a := a) (sv := sv) (le := le) hB ho hL)
        have hYT : Hid (yearsTo fy fy mo k wk d) := yearsTo_start
        clear hB ho hL
        go_enter Try.func39, Try.ntmps39
        go_wp2_with (first
          | (go_at_call 23; refine (isYearR_any _ _).mono ?_; rintro e w' ⟨rfl, rfl⟩)
          | (go_at_call 46; refine (isMonthR_any _ _).mono ?_; rintro e w' ⟨rfl, rfl⟩)
          | (go_at_call 47; refine (within_any _ _ _ _).mono ?_; rintro e w' ⟨rfl, rfl⟩)
          | (go_at_call 28; refine (checkOn_any _ _ _ _).mono ?_; rintro e w1 ⟨rfl, hb1⟩; simp only [World.size_alloc] at hb1; obtain ⟨c0, c1, c2, c3, c4, c5, c6, c7, c8⟩ := box9 hb1)
          | (go_at_call 69; refine (lettersR_any _ _ hle).mono ?_; rintro e w' ⟨rfl, rfl⟩))
        go_loopw [4] (fun v wr => ∃ y : Int, fy ≤ y ∧ y ≤ ty + 1 ∧ v = .int .i64 y ∧ yearsTo fy y mo k wk d ∧ Below (w.heap.size + 1) (w.alloc (.cells #[.int .i64 fy, .int .i64 ty, .int .i64 mo, .int .i64 k, .int .i64 wk, .int .i64 d, .int .i64 a, .int .i64 sv, .string le] 54)) wr) (fun v _ => (ty + 1 - intOf v).toNat)
        case atStart => exact ⟨fy, by omega, by omega, rfl, hYT.out, hb1⟩
        case round =>
          obtain ⟨y, y1, y2, rfl, hyt, hbr⟩ := hrel
          have HY := Lib.hid hyt
          clear hyt hb1 hYT c0 c1 c2 c3 c4 c5 c6 c7 c8
          obtain ⟨c0, c1, c2, c3, c4, c5, c6, c7, c8⟩ := box9 hbr
          by_cases hy : y ≤ ty
          · by_cases hf : findE y mo k wk d = 0
            · have hfb : (findE y mo k wk d != 0) = false := by simpa using hf
              have HN := Lib.hid (yearsTo_step HY.out hf)
              clear hf
              go_wp2_with (go_at_call 25; refine (findOf_any _ _ _ _ _ _).mono ?_; rintro e w4 ⟨rfl, hb4⟩; have hb5 := hbr.trans (hb4.mono (box_le hbr)); clear hb4 hbr)
              go_roundw
              case rel => exact ⟨y + 1, by omega, by omega, rfl, HN.out, hb5⟩
              case measure => simp [intOf]; omega
            · have hfb : (findE y mo k wk d != 0) = true := by simpa using hf
              have HN := Lib.hid (RY.out y y1 hy hf)
              clear hf
              go_wp2_with (go_at_call 25; refine (findOf_any _ _ _ _ _ _).mono ?_; rintro e w4 ⟨rfl, hb4⟩; have hb5 := hbr.trans (hb4.mono (box_le hbr)); clear hb4 hbr)
              go_ret
              exact ⟨ret_int HN.out.symm, box_below hb5⟩
          · have HN := Lib.hid (RO.out (yearsTo_end HY.out (by omega)))
            go_wp2
            go_ret
            exact ⟨ret_int HN.out.symm, box_below hbr⟩
      · have HE := Lib.hid (ruleE_let (mo := mo) hB ho hL)
        by_cases l1 : le.size ≤ 12
        · have l2 : allLet le = false := by simpa [letOk, l1] using hL
          clear hB ho hL
          go_enter Try.func39, Try.ntmps39
          go_wp2_with (first
            | (go_at_call 23; refine (isYearR_any _ _).mono ?_; rintro e w' ⟨rfl, rfl⟩)
            | (go_at_call 46; refine (isMonthR_any _ _).mono ?_; rintro e w' ⟨rfl, rfl⟩)
            | (go_at_call 47; refine (within_any _ _ _ _).mono ?_; rintro e w' ⟨rfl, rfl⟩)
            | (go_at_call 28; refine (checkOn_any _ _ _ _).mono ?_; rintro e w1 ⟨rfl, hb1⟩; simp only [World.size_alloc] at hb1; obtain ⟨c0, c1, c2, c3, c4, c5, c6, c7, c8⟩ := box9 hb1)
            | (go_at_call 69; refine (lettersR_any _ _ hle).mono ?_; rintro e w' ⟨rfl, rfl⟩))
          go_ret
          exact ⟨ret_int HE.out.symm, box_below hb1⟩
        · clear hB ho hL
          go_enter Try.func39, Try.ntmps39
          go_wp2_with (first
            | (go_at_call 23; refine (isYearR_any _ _).mono ?_; rintro e w' ⟨rfl, rfl⟩)
            | (go_at_call 46; refine (isMonthR_any _ _).mono ?_; rintro e w' ⟨rfl, rfl⟩)
            | (go_at_call 47; refine (within_any _ _ _ _).mono ?_; rintro e w' ⟨rfl, rfl⟩)
            | (go_at_call 28; refine (checkOn_any _ _ _ _).mono ?_; rintro e w1 ⟨rfl, hb1⟩; simp only [World.size_alloc] at hb1; obtain ⟨c0, c1, c2, c3, c4, c5, c6, c7, c8⟩ := box9 hb1))
          go_ret
          exact ⟨ret_int HE.out.symm, box_below hb1⟩
    · have hob : (onE k wk d != 0) = true := by simpa using ho
      have HE := Lib.hid (ruleE_on (le := le) (mo := mo) hB ho)
      clear hB ho
      go_enter Try.func39, Try.ntmps39
      go_wp2_with (first
        | (go_at_call 23; refine (isYearR_any _ _).mono ?_; rintro e w' ⟨rfl, rfl⟩)
        | (go_at_call 46; refine (isMonthR_any _ _).mono ?_; rintro e w' ⟨rfl, rfl⟩)
        | (go_at_call 47; refine (within_any _ _ _ _).mono ?_; rintro e w' ⟨rfl, rfl⟩)
        | (go_at_call 28; refine (checkOn_any _ _ _ _).mono ?_; rintro e w1 ⟨rfl, hb1⟩; simp only [World.size_alloc] at hb1; obtain ⟨c0, c1, c2, c3, c4, c5, c6, c7, c8⟩ := box9 hb1))
      go_ret
      exact ⟨ret_int HE.out.symm, box_below hb1⟩
  · have HE := Lib.hid (ruleE_basic (k := k) (wk := wk) (d := d) (le := le) hB)
    have hB' : ¬ (1970 ≤ fy ∧ fy ≤ ty ∧ ty ≤ 2029 ∧ (1 ≤ mo ∧ mo ≤ 12) ∧ (0 ≤ a ∧ a ≤ 86400) ∧ (0 ≤ sv ∧ sv ≤ 7200)) := fun x => by
      rw [(ruleBasic_iff _ _ _ _ _).2 x] at hB; cases hB
    clear hB
    rcases hcases (isYear fy) with q0 | q0
    rotate_left
    · clear hB'
      go_enter Try.func39, Try.ntmps39
      go_wp2_with (first
        | (go_at_call 23; refine (isYearR_any _ _).mono ?_; rintro e w' ⟨rfl, rfl⟩)
        | (go_at_call 46; refine (isMonthR_any _ _).mono ?_; rintro e w' ⟨rfl, rfl⟩)
        | (go_at_call 47; refine (within_any _ _ _ _).mono ?_; rintro e w' ⟨rfl, rfl⟩))
      go_ret
      exact ⟨ret_int HE.out.symm, (Below.refl _ _).alloc (Nat.le_refl _) _⟩
    · have r0 := (isYear_iff fy).1 q0
      rcases hcases (isYear ty) with q1 | q1
      rotate_left
      · clear hB'
        go_enter Try.func39, Try.ntmps39
        go_wp2_with (first
          | (go_at_call 23; refine (isYearR_any _ _).mono ?_; rintro e w' ⟨rfl, rfl⟩)
          | (go_at_call 46; refine (isMonthR_any _ _).mono ?_; rintro e w' ⟨rfl, rfl⟩)
          | (go_at_call 47; refine (within_any _ _ _ _).mono ?_; rintro e w' ⟨rfl, rfl⟩))
        go_ret
        exact ⟨ret_int HE.out.symm, (Below.refl _ _).alloc (Nat.le_refl _) _⟩
      · have r1 := (isYear_iff ty).1 q1
        by_cases q2 : ty < fy
        · clear hB'
          go_enter Try.func39, Try.ntmps39
          go_wp2_with (first
            | (go_at_call 23; refine (isYearR_any _ _).mono ?_; rintro e w' ⟨rfl, rfl⟩)
            | (go_at_call 46; refine (isMonthR_any _ _).mono ?_; rintro e w' ⟨rfl, rfl⟩)
            | (go_at_call 47; refine (within_any _ _ _ _).mono ?_; rintro e w' ⟨rfl, rfl⟩))
          go_ret
          exact ⟨ret_int HE.out.symm, (Below.refl _ _).alloc (Nat.le_refl _) _⟩
        · skip
          rcases hcases (isMonth mo) with q3 | q3
          rotate_left
          · clear hB'
            go_enter Try.func39, Try.ntmps39
            go_wp2_with (first
              | (go_at_call 23; refine (isYearR_any _ _).mono ?_; rintro e w' ⟨rfl, rfl⟩)
              | (go_at_call 46; refine (isMonthR_any _ _).mono ?_; rintro e w' ⟨rfl, rfl⟩)
              | (go_at_call 47; refine (within_any _ _ _ _).mono ?_; rintro e w' ⟨rfl, rfl⟩))
            go_ret
            exact ⟨ret_int HE.out.symm, (Below.refl _ _).alloc (Nat.le_refl _) _⟩
          · have r3 := (isMonth_iff mo).1 q3
            rcases hcases (withinB a 0 86400) with q4 | q4
            rotate_left
            · clear hB'
              go_enter Try.func39, Try.ntmps39
              go_wp2_with (first
                | (go_at_call 23; refine (isYearR_any _ _).mono ?_; rintro e w' ⟨rfl, rfl⟩)
                | (go_at_call 46; refine (isMonthR_any _ _).mono ?_; rintro e w' ⟨rfl, rfl⟩)
                | (go_at_call 47; refine (within_any _ _ _ _).mono ?_; rintro e w' ⟨rfl, rfl⟩))
              go_ret
              exact ⟨ret_int HE.out.symm, (Below.refl _ _).alloc (Nat.le_refl _) _⟩
            · have r4 := (withinB_iff _ _ _).1 q4
              have q9 : withinB sv 0 7200 = false := (withinB_no _ _ _).2 (by omega)
              clear hB'
              go_enter Try.func39, Try.ntmps39
              go_wp2_with (first
                | (go_at_call 23; refine (isYearR_any _ _).mono ?_; rintro e w' ⟨rfl, rfl⟩)
                | (go_at_call 46; refine (isMonthR_any _ _).mono ?_; rintro e w' ⟨rfl, rfl⟩)
                | (go_at_call 47; refine (within_any _ _ _ _).mono ?_; rintro e w' ⟨rfl, rfl⟩))
              go_ret
              exact ⟨ret_int HE.out.symm, (Below.refl _ _).alloc (Nat.le_refl _) _⟩
end Go.Proofs.Ytlmphmfadikdpaa
