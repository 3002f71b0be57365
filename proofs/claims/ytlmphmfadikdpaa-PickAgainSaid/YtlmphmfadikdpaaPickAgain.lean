/- The walk of PickAgain. -/
import Derived.Test.YtlmphmfadikdpaaPick5
import Derived.Test.YtlmphmfadikdpaaChoose
set_option linter.unusedVariables false
namespace Gno
theorem findR_eq {y m k w d : Int} (ho : onE k w d = 0) (hy : isYM y m = true) (h : findR y m k w d ≤ size y m) : findN y m k w d = findR y m k w d ∧ findE y m k w d = 0 := by
  unfold findN findE
  rw [if_neg (by omega), if_neg (by rw [hy]; simp), if_neg (by omega), if_neg (by omega), if_neg (by rw [hy]; simp), if_neg (by omega)]
  exact ⟨rfl, rfl⟩
theorem onE2 {w : Int} (h1 : 0 ≤ w) (h2 : w ≤ 6) : onE 2 w 0 = 0 := by unfold onE; simp; omega
theorem onE3 {w d : Int} (h1 : 0 ≤ w) (h2 : w ≤ 6) (h3 : 1 ≤ d) (h4 : d ≤ 31) : onE 3 w d = 0 := by unfold onE; simp; omega
theorem findE_no {y m k w d : Int} (ho : onE k w d = 0) (hy : isYM y m = false) : findN y m k w d = 0 ∧ findE y m k w d = 3 := by
  unfold findN findE
  simp [ho, hy]
/-- the four finds of a weekday. -/
theorem again_is (y m w : Int) (hy : isYM y m = true) (h1 : 0 ≤ w) (h2 : w ≤ 6) : ∃ L F : Int, 22 ≤ L ∧ L ≤ 31 ∧ 1 ≤ F ∧ F ≤ 7 ∧ (L - F) % 7 = 0 ∧
    (findN y m 2 w 0 = L ∧ findE y m 2 w 0 = 0) ∧ (findN y m 3 w 1 = F ∧ findE y m 3 w 1 = 0) ∧ (findN y m 3 w L = L ∧ findE y m 3 w L = 0) ∧ (findN y m 3 w (L - 7) = L - 7 ∧ findE y m 3 w (L - 7) = 0) := by
  have hym : (1970 ≤ y ∧ y ≤ 2029) ∧ (1 ≤ m ∧ m ≤ 12) := by simpa [isYM, isYear, isMonth] using hy
  have hs := size_bd y m hym.2.1 hym.2.2
  obtain ⟨l1, l2, l3, _⟩ := last_is w 0 (pick1 y m) (size y m) h1 h2
  obtain ⟨a1, a2, a3, _⟩ := after_is w 1 (pick1 y m) (size y m) h1 h2
  have e3 : ∀ d, (pick1 y m + d) % 7 = w → findR y m 3 w d = d := fun d hd => by
    unfold findR pickR
    rw [if_neg (by omega), if_pos rfl]
    omega
  have r2 : findR y m 2 w 0 = pickR 2 w 0 (pick1 y m) (size y m) := rfl
  have r3 : findR y m 3 w 1 = pickR 3 w 1 (pick1 y m) (size y m) := rfl
  have x2 := findR_eq (d := 0) (onE2 h1 h2) hy (by rw [r2]; omega)
  have x3 := findR_eq (d := 1) (onE3 h1 h2 (by omega) (by omega)) hy (by rw [r3]; omega)
  refine ⟨pickR 2 w 0 (pick1 y m) (size y m), pickR 3 w 1 (pick1 y m) (size y m), by omega, by omega, by omega, by omega, by omega, x2, x3, ?_, ?_⟩
  · have x := findR_eq (d := pickR 2 w 0 (pick1 y m) (size y m)) (onE3 h1 h2 (by omega) (by omega)) hy (by rw [e3 _ l3]; exact l2)
    rw [e3 _ l3] at x
    exact x
  · have hh : (pick1 y m + (pickR 2 w 0 (pick1 y m) (size y m) - 7)) % 7 = w := by omega
    have x := findR_eq (d := pickR 2 w 0 (pick1 y m) (size y m) - 7) (onE3 h1 h2 (by omega) (by omega)) hy (by rw [e3 _ hh]; omega)
    rw [e3 _ hh] at x
    exact x
end Gno
namespace Go.Proofs.Ytlmphmfadikdpaa
open Go.RowKit Gno

set_option maxRecDepth 100000 in
set_option maxHeartbeats 4000000 in
theorem pickAgain_walk (y m r : Int) (hr : (Lit.int .i64 r).wf = true) (w : World) :
    Calls Try.prog 7 #[.int .i64 y, .int .i64 m, .int .i64 r] w fun e w' => e = .returned (.bool true) ∧ Below w.heap.size w w' := by
  have hcb := chooseN_bd r 7 (by omega)
  have CH := Lib.hid (fun w => choose_any r 7 w hr (by omega) (by omega))
  obtain ⟨u, hu⟩ : ∃ u, u = chooseN r 7 := ⟨_, rfl⟩
  rw [← hu] at hcb CH
  obtain ⟨u1, u2⟩ := hcb
  clear hr hu
  have hcases : ∀ b : Bool, b = true ∨ b = false := by decide
  rcases hcases (isYM y m) with hy | hy
  · obtain ⟨L, F, L1, L2, F1, F2, hLF, ⟨p1, q1⟩, ⟨p2, q2⟩, ⟨p3, q3⟩, ⟨p4, q4⟩⟩ := again_is y m u hy (by omega) (by omega)
    have c1 := fun w => find_any y m 2 u 0 w
    have c2 := fun w => find_any y m 3 u 1 w
    have c3 := fun w => find_any y m 3 u L w
    have c4 := fun w => find_any y m 3 u (L - 7) w
    simp only [p1, q1, p2, q2, p3, q3, p4, q4] at c1 c2 c3 c4
    have C1 := Lib.hid c1
    have C2 := Lib.hid c2
    have C3 := Lib.hid c3
    have C4 := Lib.hid c4
    have hmx : max 1 (L - 7) = L - 7 := by omega
    have hb : ((L - F) % 7 == 0) = true := by simp [hLF]
    have hfl : F ≤ L := by omega
    clear c1 c2 c3 c4 p1 q1 p2 q2 p3 q3 p4 q4 hy hLF
    go_enter Try.func7, Try.ntmps7
    go_wp2_with (go_at_call 29; (with_reducible refine (CH.out _).mono ?_); rintro e w' ⟨rfl, rfl⟩)
    refine (C1.out _).mono ?_
    rintro e w1 ⟨rfl, hb1⟩
    go_wp2_with fail
    refine (C2.out _).mono ?_
    rintro e w2 ⟨rfl, hb2⟩
    have h12 := hb1.trans (hb2.mono hb1.size)
    clear hb1 hb2
    go_wp2_with fail
    refine (C3.out _).mono ?_
    rintro e w3 ⟨rfl, hb3⟩
    have h13 := h12.trans (hb3.mono h12.size)
    clear h12 hb3
    go_wp2_with fail
    refine (C4.out _).mono ?_
    rintro e w4 ⟨rfl, hb4⟩
    have h14 := h13.trans (hb4.mono h13.size)
    clear h13 hb4
    go_wp2_with fail
    refine (pickBegun_any _).mono ?_
    rintro e w5 ⟨rfl, hb5⟩
    have h15 := h14.trans (hb5.mono h14.size)
    go_wp2
    go_ret
    exact ⟨rfl, h15⟩
  · have c1 := fun w => find_any y m 2 u 0 w
    have c2 := fun w => find_any y m 3 u 1 w
    have e1 := findE_no (onE2 (w := u) (by omega) (by omega)) hy
    have e2 := findE_no (onE3 (w := u) (d := 1) (by omega) (by omega) (by omega) (by omega)) hy
    simp only [e1.1, e1.2, e2.1, e2.2] at c1 c2
    have C1 := Lib.hid c1
    have C2 := Lib.hid c2
    clear c1 c2 e1 e2 hy
    go_enter Try.func7, Try.ntmps7
    go_wp2_with (go_at_call 29; (with_reducible refine (CH.out _).mono ?_); rintro e w' ⟨rfl, rfl⟩)
    refine (C1.out _).mono ?_
    rintro e w1 ⟨rfl, hb1⟩
    go_wp2_with fail
    refine (C2.out _).mono ?_
    rintro e w2 ⟨rfl, hb2⟩
    have h12 := hb1.trans (hb2.mono hb1.size)
    clear hb1 hb2
    go_wp2_with fail
    refine (pickBegun_any _).mono ?_
    rintro e w5 ⟨rfl, hb5⟩
    have h15 := h12.trans (hb5.mono h12.size)
    go_wp2
    go_ret
    exact ⟨rfl, h15⟩
end Go.Proofs.Ytlmphmfadikdpaa
