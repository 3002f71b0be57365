/- The walks of the reference's CheckOn and FindOf. -/
import Derived.Test.YtlmphmfadikdpaaPick2
set_option linter.unusedVariables false
namespace Go.Proofs.Ytlmphmfadikdpaa
open Go.RowKit Gno

theorem onE_no1 {k w d : Int} (h : ¬ (k = 1 ∨ k = 2 ∨ k = 3)) : onE k w d = 8 := by unfold onE; rw [if_neg (by omega), if_neg (by omega), if_neg (by omega)]

set_option maxHeartbeats 1000000 in
theorem checkOn_any (k wk d : Int) (w : World) :
    Calls Try.prog 28 #[.agg #[.int .i64 k, .int .i64 wk, .int .i64 d]] w fun e w' => e = .returned (.int .i64 (onE k wk d)) ∧ Below w.heap.size w w' := by
  by_cases hk : k = 1 ∨ k = 2 ∨ k = 3
  · have hw : withinB k 1 3 = true := (withinB_iff _ _ _).2 (by omega)
    have hcases : ∀ b : Bool, b = true ∨ b = false := by decide
    rcases hcases (withinB wk 0 6) with h6 | h6
    · have h6' := (withinB_iff _ _ _).1 h6
      rcases hcases (withinB d 1 31) with h31 | h31
      · have h31' := (withinB_iff _ _ _).1 h31
        rcases hk with rfl | rfl | rfl
        all_goals
          go_enter Try.func28, Try.ntmps28
          go_wp2_with (go_at_call 47; refine (within_any _ _ _ _).mono ?_; rintro e w' ⟨rfl, rfl⟩)
          all_goals
            go_ret
            exact ⟨ret_int (by unfold onE; simp_all; try omega), (Below.refl _ _).alloc (Nat.le_refl _) _⟩
      · have h31' := (withinB_no _ _ _).1 h31
        rcases hk with rfl | rfl | rfl
        all_goals
          go_enter Try.func28, Try.ntmps28
          go_wp2_with (go_at_call 47; refine (within_any _ _ _ _).mono ?_; rintro e w' ⟨rfl, rfl⟩)
          all_goals
            go_ret
            exact ⟨ret_int (by unfold onE; simp_all; try omega), (Below.refl _ _).alloc (Nat.le_refl _) _⟩
    · have h6' := (withinB_no _ _ _).1 h6
      rcases hk with rfl | rfl | rfl
      all_goals
        go_enter Try.func28, Try.ntmps28
        go_wp2_with (go_at_call 47; refine (within_any _ _ _ _).mono ?_; rintro e w' ⟨rfl, rfl⟩)
        all_goals
          go_ret
          exact ⟨ret_int (by unfold onE; simp; try omega), (Below.refl _ _).alloc (Nat.le_refl _) _⟩
  · have hw : withinB k 1 3 = false := (withinB_no _ _ _).2 (by omega)
    have HE := Lib.hid (onE_no1 (w := wk) (d := d) hk)
    clear hk
    go_enter Try.func28, Try.ntmps28
    go_wp2_with (go_at_call 47; refine (within_any _ _ _ _).mono ?_; rintro e w' ⟨rfl, rfl⟩)
    go_ret
    exact ⟨ret_int (by rw [HE.out]), (Below.refl _ _).alloc (Nat.le_refl _) _⟩
end Go.Proofs.Ytlmphmfadikdpaa
