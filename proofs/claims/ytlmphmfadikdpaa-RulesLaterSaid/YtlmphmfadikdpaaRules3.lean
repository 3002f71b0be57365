/- The walks of rules.Begin, At and the reference's begins, AtOf. -/
import Derived.Test.YtlmphmfadikdpaaRules2
set_option linter.unusedVariables false
namespace Gno
def stdOk (s : Int) : Bool := decide (-50400 ≤ s ∧ s ≤ 50400)
theorem stdOk_iff (s : Int) : stdOk s = true ↔ -50400 ≤ s ∧ s ≤ 50400 := by unfold stdOk; rw [decide_eq_true_iff]
/-- when a right rule begins in a year. -/
def beginN (y mo k wk d a std : Int) : Int := num y mo (findN y mo k wk d) * 86400 + a - std
noncomputable def atE (fy ty mo k wk d a sv : Int) (le : ByteArray) (y std : Int) : Int :=
  if ruleE fy ty mo k wk d a sv le ≠ 0 then ruleE fy ty mo k wk d a sv le else if (fy ≤ y ∧ y ≤ ty) ∧ stdOk std = true then 0 else 3
noncomputable def atN (fy ty mo k wk d a sv : Int) (le : ByteArray) (y std : Int) : Int :=
  if ruleE fy ty mo k wk d a sv le ≠ 0 then 0 else if (fy ≤ y ∧ y ≤ ty) ∧ stdOk std = true then beginN y mo k wk d a std else 0
theorem found_pos {y m k w d : Int} (h : findE y m k w d = 0) : isDate y m (findN y m k w d) = true := by
  have hk : onE k w d = 0 ∧ isYM y m = true ∧ findR y m k w d ≤ size y m ∧ findN y m k w d = findR y m k w d := by
    unfold findE at h
    by_cases ho : onE k w d ≠ 0
    · rw [if_pos ho] at h
      exact absurd h ho
    · rw [if_neg ho] at h
      cases hy : isYM y m
      · rw [if_pos hy] at h
        omega
      · rw [if_neg (by rw [hy]; simp)] at h
        by_cases hl : size y m < findR y m k w d
        · rw [if_pos hl] at h
          omega
        · refine ⟨by omega, rfl, by omega, ?_⟩
          unfold findN
          rw [if_neg ho, if_neg (by rw [hy]; simp), if_neg hl]
  obtain ⟨ho, hy, hle, hN⟩ := hk
  have hym : (1970 ≤ y ∧ y ≤ 2029) ∧ (1 ≤ m ∧ m ≤ 12) := by simpa [isYM, isYear, isMonth] using hy
  have hs := size_bd y m hym.2.1 hym.2.2
  rw [hN]
  refine (isDate_iff _ _ _).2 ⟨hym.1, hym.2, ?_, hle⟩
  unfold findR
  rcases onE_ok ho with ⟨rfl, rfl, d1, d2⟩ | ⟨rfl, ⟨k1, k2⟩, rfl⟩ | ⟨rfl, ⟨k1, k2⟩, d1, d2⟩
  · rw [exact_is]; exact d1
  · have := last_is w 0 (pick1 y m) (size y m) k1 k2; omega
  · have := after_is w d (pick1 y m) (size y m) k1 k2; omega
theorem begin_in {y mo k wk d a std : Int} (h : findE y mo k wk d = 0) : 0 ≤ num y mo (findN y mo k wk d) ∧ num y mo (findN y mo k wk d) ≤ 21914 := (isDay_iff _).1 (day_of _ _ _ (found_pos h)).1
end Gno
namespace Go.Proofs.Ytlmphmfadikdpaa
open Go.RowKit Gno

theorem fine_any (std : Int) (w : World) :
    Calls Try.prog 63 #[.int .i64 std] w fun e w' => e = .returned (.bool (stdOk std)) ∧ w = w' := by
  by_cases h1 : -50400 ≤ std
  · by_cases h2 : std ≤ 50400
    all_goals
      go_enter Try.func63, Try.ntmps63
      go_wp2
      go_ret
      exact ⟨ret_bool (by simp [stdOk]; omega), rfl⟩
  · go_enter Try.func63, Try.ntmps63
    go_wp2
    go_ret
    exact ⟨ret_bool (by simp [stdOk]; omega), rfl⟩
theorem isStd_any (std : Int) (w : World) :
    Calls Try.prog 65 #[.int .i64 std] w fun e w' => e = .returned (.bool (stdOk std)) ∧ w = w' := by
  go_enter Try.func65, Try.ntmps65
  go_wp2_with (go_at_call 47; refine (within_any _ _ _ _).mono ?_; rintro e w' ⟨rfl, rfl⟩)
  go_ret
  exact ⟨rfl, rfl⟩
def timeOk (t : Int) : Bool := withinB t 0 1893455999
theorem isTime_any (t : Int) (w : World) :
    Calls Try.prog 71 #[.int .i64 t] w fun e w' => e = .returned (.bool (timeOk t)) ∧ w = w' := by
  go_enter Try.func71, Try.ntmps71
  go_wp2_with (go_at_call 47; refine (within_any _ _ _ _).mono ?_; rintro e w' ⟨rfl, rfl⟩)
  go_ret
  exact ⟨rfl, rfl⟩

set_option maxHeartbeats 1000000 in
theorem begin9_any (fy ty mo k wk d a sv y std : Int) (le : ByteArray) (w : World) (hf : findE y mo k wk d = 0) (ha1 : 0 ≤ a) (ha2 : a ≤ 86400) (hs1 : -50400 ≤ std) (hs2 : std ≤ 50400) :
    Calls Try.prog 64 #[.agg #[.int .i64 fy, .int .i64 ty, .int .i64 mo, .int .i64 k, .int .i64 wk, .int .i64 d, .int .i64 a, .int .i64 sv, .string le], .int .i64 y, .int .i64 std] w fun e w' => e = .returned (.int .i64 (beginN y mo k wk d a std)) ∧ Below w.heap.size w w' := by
  have DD := Lib.hid (fun w => days_yes _ _ _ w (found_pos hf))
  obtain ⟨n1, n2⟩ := begin_in (a := a) (std := std) hf
  have HB := Lib.hid (show beginN y mo k wk d a std = num y mo (findN y mo k wk d) * 86400 + a - std from rfl)
  clear hf
  go_enter Try.func64, Try.ntmps64
  go_wp2_with (first
    | (go_at_call 24; refine (find_any _ _ _ _ _ _).mono ?_; rintro e w1 ⟨rfl, hb1⟩; simp only [World.size_alloc] at hb1; obtain ⟨c0, c1, c2, c3, c4, c5, c6, c7, c8⟩ := box9 hb1)
    | (go_at_call 16; (with_reducible refine (DD.out _).mono ?_); rintro e w' ⟨rfl, rfl⟩))
  go_ret
  exact ⟨ret_int HB.out.symm, box_below hb1⟩

set_option maxHeartbeats 1000000 in
theorem begins9_any (fy ty mo k wk d a sv y std : Int) (le : ByteArray) (w : World) (hf : findE y mo k wk d = 0) (ha1 : 0 ≤ a) (ha2 : a ≤ 86400) (hs1 : -50400 ≤ std) (hs2 : std ≤ 50400) :
    Calls Try.prog 66 #[.agg #[.int .i64 fy, .int .i64 ty, .int .i64 mo, .int .i64 k, .int .i64 wk, .int .i64 d, .int .i64 a, .int .i64 sv, .string le], .int .i64 y, .int .i64 std] w fun e w' => e = .returned (.int .i64 (beginN y mo k wk d a std)) ∧ Below w.heap.size w w' := by
  have DD := Lib.hid (fun w => daysOf_yes _ _ _ w (found_pos hf))
  obtain ⟨n1, n2⟩ := begin_in (a := a) (std := std) hf
  have HB := Lib.hid (show beginN y mo k wk d a std = num y mo (findN y mo k wk d) * 86400 + a - std from rfl)
  clear hf
  go_enter Try.func66, Try.ntmps66
  go_wp2_with (first
    | (go_at_call 25; refine (findOf_any _ _ _ _ _ _).mono ?_; rintro e w1 ⟨rfl, hb1⟩; simp only [World.size_alloc] at hb1; obtain ⟨c0, c1, c2, c3, c4, c5, c6, c7, c8⟩ := box9 hb1)
    | (go_at_call 19; (with_reducible refine (DD.out _).mono ?_); rintro e w2 ⟨rfl, hb2⟩; have hb3 := hb1.trans (hb2.mono (box_le hb1)); clear hb1 hb2 c0 c1 c2 c3 c4 c5 c6 c7 c8; obtain ⟨c0, c1, c2, c3, c4, c5, c6, c7, c8⟩ := box9 hb3))
  go_ret
  exact ⟨ret_int HB.out.symm, box_below hb3⟩

set_option maxHeartbeats 1000000 in
theorem at9_any (fy ty mo k wk d a sv y std : Int) (le : ByteArray) (w : World) (hle : le.size ≤ maxLen) :
    Calls Try.prog 35 #[.agg #[.int .i64 fy, .int .i64 ty, .int .i64 mo, .int .i64 k, .int .i64 wk, .int .i64 d, .int .i64 a, .int .i64 sv, .string le], .int .i64 y, .int .i64 std] w fun e w' => e = .returned (.tuple #[.int .i64 (atN fy ty mo k wk d a sv le y std), .int .i64 (atE fy ty mo k wk d a sv le y std)]) ∧ Below w.heap.size w w' := by
  have RC := Lib.hid (fun w => rcheck_any fy ty mo k wk d a sv le w hle)
  by_cases h : ruleE fy ty mo k wk d a sv le = 0
  · have hb : (ruleE fy ty mo k wk d a sv le != 0) = false := by simpa using h
    obtain ⟨hB, ho, hL, hY⟩ := ruleE_zero h
    have hB' := (ruleBasic_iff _ _ _ _ _).1 hB
    obtain ⟨_, _, _, _, ⟨b6, b7⟩, _⟩ := hB'
    by_cases hy : fy ≤ y ∧ y ≤ ty
    · obtain ⟨hy1, hy2⟩ := hy
      cases hs : stdOk std
      · have E1 := Lib.hid (show atN fy ty mo k wk d a sv le y std = 0 by unfold atN; rw [if_neg (by omega), if_neg (by simp [hs])])
        have E2 := Lib.hid (show atE fy ty mo k wk d a sv le y std = 3 by unfold atE; rw [if_neg (by omega), if_neg (by simp [hs])])
        clear h hB ho hL hY b6 b7
        go_enter Try.func35, Try.ntmps35
        go_wp2_with (first
          | (go_at_call 38; (with_reducible refine (RC.out _).mono ?_); rintro e w1 ⟨rfl, hb1⟩; simp only [World.size_alloc] at hb1; obtain ⟨c0, c1, c2, c3, c4, c5, c6, c7, c8⟩ := box9 hb1)
          | (go_at_call 63; refine (fine_any _ _).mono ?_; rintro e w' ⟨rfl, rfl⟩))
        go_ret2
        exact ⟨ret_ii E1.out.symm E2.out.symm, box_below hb1⟩
      · have hs' := (stdOk_iff std).1 hs
        have E1 := Lib.hid (show atN fy ty mo k wk d a sv le y std = beginN y mo k wk d a std by unfold atN; rw [if_neg (by omega), if_pos ⟨⟨hy1, hy2⟩, hs⟩])
        have E2 := Lib.hid (show atE fy ty mo k wk d a sv le y std = 0 by unfold atE; rw [if_neg (by omega), if_pos ⟨⟨hy1, hy2⟩, hs⟩])
        have BG := Lib.hid (fun w => begin9_any fy ty mo k wk d a sv y std le w (hY y hy1 hy2) b6 b7 hs'.1 hs'.2)
        clear h hB ho hL hY b6 b7 hs'
        go_enter Try.func35, Try.ntmps35
        go_wp2_with (first
          | (go_at_call 38; (with_reducible refine (RC.out _).mono ?_); rintro e w1 ⟨rfl, hb1⟩; simp only [World.size_alloc] at hb1; obtain ⟨c0, c1, c2, c3, c4, c5, c6, c7, c8⟩ := box9 hb1)
          | (go_at_call 64; (with_reducible refine (BG.out _).mono ?_); rintro e w2 ⟨rfl, hb2⟩; have hb3 := hb1.trans (hb2.mono (box_le hb1)))
          | (go_at_call 63; refine (fine_any _ _).mono ?_; rintro e w' ⟨rfl, rfl⟩))
        go_ret2
        exact ⟨ret_ii E1.out.symm E2.out.symm, box_below hb3⟩
    · have E1 := Lib.hid (show atN fy ty mo k wk d a sv le y std = 0 by unfold atN; rw [if_neg (by omega), if_neg (fun x => hy x.1)])
      have E2 := Lib.hid (show atE fy ty mo k wk d a sv le y std = 3 by unfold atE; rw [if_neg (by omega), if_neg (fun x => hy x.1)])
      clear h hB ho hL hY b6 b7
      by_cases q1 : y < fy
      · clear hy
        go_enter Try.func35, Try.ntmps35
        go_wp2_with (first
          | (go_at_call 38; (with_reducible refine (RC.out _).mono ?_); rintro e w1 ⟨rfl, hb1⟩; simp only [World.size_alloc] at hb1; obtain ⟨c0, c1, c2, c3, c4, c5, c6, c7, c8⟩ := box9 hb1)
          | (go_at_call 63; refine (fine_any _ _).mono ?_; rintro e w' ⟨rfl, rfl⟩))
        go_ret2
        exact ⟨ret_ii E1.out.symm E2.out.symm, box_below hb1⟩
      · have q2 : ty < y := by omega
        clear hy
        go_enter Try.func35, Try.ntmps35
        go_wp2_with (first
          | (go_at_call 38; (with_reducible refine (RC.out _).mono ?_); rintro e w1 ⟨rfl, hb1⟩; simp only [World.size_alloc] at hb1; obtain ⟨c0, c1, c2, c3, c4, c5, c6, c7, c8⟩ := box9 hb1)
          | (go_at_call 63; refine (fine_any _ _).mono ?_; rintro e w' ⟨rfl, rfl⟩))
        go_ret2
        exact ⟨ret_ii E1.out.symm E2.out.symm, box_below hb1⟩
  · have hb : (ruleE fy ty mo k wk d a sv le != 0) = true := by simpa using h
    have E1 := Lib.hid (show atN fy ty mo k wk d a sv le y std = 0 by unfold atN; rw [if_pos (by omega)])
    have E2 := Lib.hid (show atE fy ty mo k wk d a sv le y std = ruleE fy ty mo k wk d a sv le by unfold atE; rw [if_pos (by omega)])
    clear h
    go_enter Try.func35, Try.ntmps35
    go_wp2_with (first
      | (go_at_call 38; (with_reducible refine (RC.out _).mono ?_); rintro e w1 ⟨rfl, hb1⟩; simp only [World.size_alloc] at hb1; obtain ⟨c0, c1, c2, c3, c4, c5, c6, c7, c8⟩ := box9 hb1))
    go_ret2
    exact ⟨ret_ii E1.out.symm E2.out.symm, box_below hb1⟩

set_option maxHeartbeats 1000000 in
theorem atOf9_any (fy ty mo k wk d a sv y std : Int) (le : ByteArray) (w : World) (hle : le.size ≤ maxLen) :
    Calls Try.prog 36 #[.agg #[.int .i64 fy, .int .i64 ty, .int .i64 mo, .int .i64 k, .int .i64 wk, .int .i64 d, .int .i64 a, .int .i64 sv, .string le], .int .i64 y, .int .i64 std] w fun e w' => e = .returned (.tuple #[.int .i64 (atN fy ty mo k wk d a sv le y std), .int .i64 (atE fy ty mo k wk d a sv le y std)]) ∧ Below w.heap.size w w' := by
  have RC := Lib.hid (fun w => checkRule_any fy ty mo k wk d a sv le w hle)
  by_cases h : ruleE fy ty mo k wk d a sv le = 0
  · have hb : (ruleE fy ty mo k wk d a sv le != 0) = false := by simpa using h
    obtain ⟨hB, ho, hL, hY⟩ := ruleE_zero h
    have hB' := (ruleBasic_iff _ _ _ _ _).1 hB
    obtain ⟨_, _, _, _, ⟨b6, b7⟩, _⟩ := hB'
    by_cases hy : fy ≤ y ∧ y ≤ ty
    · obtain ⟨hy1, hy2⟩ := hy
      have wy : withinB y fy ty = true := (withinB_iff _ _ _).2 ⟨hy1, hy2⟩
      cases hs : stdOk std
      · have E1 := Lib.hid (show atN fy ty mo k wk d a sv le y std = 0 by unfold atN; rw [if_neg (by omega), if_neg (by simp [hs])])
        have E2 := Lib.hid (show atE fy ty mo k wk d a sv le y std = 3 by unfold atE; rw [if_neg (by omega), if_neg (by simp [hs])])
        clear h hB ho hL hY b6 b7
        go_enter Try.func36, Try.ntmps36
        go_wp2_with (first
          | (go_at_call 39; (with_reducible refine (RC.out _).mono ?_); rintro e w1 ⟨rfl, hb1⟩; simp only [World.size_alloc] at hb1; obtain ⟨c0, c1, c2, c3, c4, c5, c6, c7, c8⟩ := box9 hb1)
          | (go_at_call 65; refine (isStd_any _ _).mono ?_; rintro e w' ⟨rfl, rfl⟩)
          | (go_at_call 47; refine (within_any _ _ _ _).mono ?_; rintro e w' ⟨rfl, rfl⟩))
        go_ret2
        exact ⟨ret_ii E1.out.symm E2.out.symm, box_below hb1⟩
      · have hs' := (stdOk_iff std).1 hs
        have E1 := Lib.hid (show atN fy ty mo k wk d a sv le y std = beginN y mo k wk d a std by unfold atN; rw [if_neg (by omega), if_pos ⟨⟨hy1, hy2⟩, hs⟩])
        have E2 := Lib.hid (show atE fy ty mo k wk d a sv le y std = 0 by unfold atE; rw [if_neg (by omega), if_pos ⟨⟨hy1, hy2⟩, hs⟩])
        have BG := Lib.hid (fun w => begins9_any fy ty mo k wk d a sv y std le w (hY y hy1 hy2) b6 b7 hs'.1 hs'.2)
        clear h hB ho hL hY b6 b7 hs'
        go_enter Try.func36, Try.ntmps36
        go_wp2_with (first
          | (go_at_call 39; (with_reducible refine (RC.out _).mono ?_); rintro e w1 ⟨rfl, hb1⟩; simp only [World.size_alloc] at hb1; obtain ⟨c0, c1, c2, c3, c4, c5, c6, c7, c8⟩ := box9 hb1)
          | (go_at_call 66; (with_reducible refine (BG.out _).mono ?_); rintro e w2 ⟨rfl, hb2⟩; have hb3 := hb1.trans (hb2.mono (box_le hb1)))
          | (go_at_call 65; refine (isStd_any _ _).mono ?_; rintro e w' ⟨rfl, rfl⟩)
          | (go_at_call 47; refine (within_any _ _ _ _).mono ?_; rintro e w' ⟨rfl, rfl⟩))
        go_ret2
        exact ⟨ret_ii E1.out.symm E2.out.symm, box_below hb3⟩
    · have E1 := Lib.hid (show atN fy ty mo k wk d a sv le y std = 0 by unfold atN; rw [if_neg (by omega), if_neg (fun x => hy x.1)])
      have E2 := Lib.hid (show atE fy ty mo k wk d a sv le y std = 3 by unfold atE; rw [if_neg (by omega), if_neg (fun x => hy x.1)])
      clear h hB ho hL hY b6 b7
      have wy : withinB y fy ty = false := (withinB_no _ _ _).2 hy
      clear hy
      go_enter Try.func36, Try.ntmps36
      go_wp2_with (first
        | (go_at_call 39; (with_reducible refine (RC.out _).mono ?_); rintro e w1 ⟨rfl, hb1⟩; simp only [World.size_alloc] at hb1; obtain ⟨c0, c1, c2, c3, c4, c5, c6, c7, c8⟩ := box9 hb1)
        | (go_at_call 65; refine (isStd_any _ _).mono ?_; rintro e w' ⟨rfl, rfl⟩)
        | (go_at_call 47; refine (within_any _ _ _ _).mono ?_; rintro e w' ⟨rfl, rfl⟩))
      go_ret2
      exact ⟨ret_ii E1.out.symm E2.out.symm, box_below hb1⟩
  · have hb : (ruleE fy ty mo k wk d a sv le != 0) = true := by simpa using h
    have E1 := Lib.hid (show atN fy ty mo k wk d a sv le y std = 0 by unfold atN; rw [if_pos (by omega)])
    have E2 := Lib.hid (show atE fy ty mo k wk d a sv le y std = ruleE fy ty mo k wk d a sv le by unfold atE; rw [if_pos (by omega)])
    clear h
    go_enter Try.func36, Try.ntmps36
    go_wp2_with (first
      | (go_at_call 39; (with_reducible refine (RC.out _).mono ?_); rintro e w1 ⟨rfl, hb1⟩; simp only [World.size_alloc] at hb1; obtain ⟨c0, c1, c2, c3, c4, c5, c6, c7, c8⟩ := box9 hb1))
    go_ret2
    exact ⟨ret_ii E1.out.symm E2.out.symm, box_below hb1⟩
end Go.Proofs.Ytlmphmfadikdpaa
