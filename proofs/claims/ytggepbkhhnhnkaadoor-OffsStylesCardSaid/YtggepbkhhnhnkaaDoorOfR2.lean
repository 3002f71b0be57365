/- The reference's offsets as text. -/
import Derived.Test.YtggepbkhhnhnkaaDoorOfR
set_option linter.unusedVariables false
set_option linter.unusedSimpArgs false
namespace Gno
open Go
theorem tw_app {n : Nat} (h : n < 100) : B (nuL (n / 10)) ++ B (nuL (n % 10)) = B (twL n) := by
  rw [B_app, nu_low (n := n / 10) (by omega), nu_low (n := n % 10) (by omega)]; rfl
theorem nu_le (n : Nat) : (B (nuL n)).size ≤ 2 := by rw [B_size]; unfold nuL; split <;> simp [twL]
theorem tw_le (n : Nat) : (B (twL n)).size ≤ 2 := by rw [B_size]; simp [twL]
theorem sg_neg {n : Int} (h : n < 0) : sgL n = [45] := by unfold sgL; rw [if_pos h]
theorem sg_pos {n : Int} (h : ¬ n < 0) : sgL n = [43] := by unfold sgL; rw [if_neg h]
theorem showL_some {k n : Int} (h : ¬ (n = 0 ∧ k ≠ 1)) : showL k n = aheadL k ++ (sgL n ++ layL k (n.natAbs / 60 / 60) (n.natAbs / 60 % 60)) := by unfold showL; rw [if_neg h]
theorem showL_zero {k n : Int} (h : n = 0) (hk : k ≠ 1) : showL k n = zeroL k := by unfold showL; rw [if_pos ⟨h, hk⟩]
theorem showT_of {k n : Int} (h : kindB k = true) (hn : offOk n = true) {l : List UInt8} (hl : showL k n = l) : B l = showT k n := by rw [(showE_ok h hn).2, hl]
theorem offOk_iff {n : Int} : offOk n = true ↔ (-57600 ≤ n ∧ n ≤ 57600 ∧ n % 60 = 0) := by unfold offOk; exact decide_eq_true_iff
theorem kindB_iff {k : Int} : kindB k = true ↔ (1 ≤ k ∧ k ≤ 4) := by unfold kindB; exact decide_eq_true_iff
theorem tmod60 {n : Int} : n.tmod 60 = 0 ↔ n % 60 = 0 := by
  rw [← Int.dvd_iff_tmod_eq_zero, Int.dvd_iff_emod_eq_zero]
end Gno
namespace Go.Proofs.YtggepbkhhnhnkaaDoor
open Go.RowKit Gno
set_option maxHeartbeats 4000000 in
theorem twoR_any (n : Nat) (h : n < 100) (w : World) : Calls Tryd.prog 16 #[.int .i64 n] w fun e w' => e = .returned (.string (B (twL n))) ∧ Below w.heap.size w w' := by
  obtain ⟨a, ha⟩ : ∃ a, a = B (nuL (n / 10)) := ⟨_, rfl⟩
  obtain ⟨b, hb⟩ : ∃ b, b = B (nuL (n % 10)) := ⟨_, rfl⟩
  have C1 := Lib.hid (fun w => digits_any (n / 10) (by omega) w)
  have C2 := Lib.hid (fun w => digits_any (n % 10) (by omega) w)
  rw [show (((n / 10 : Nat)) : Int) = (n : Int) / 10 by omega, ← ha] at C1
  rw [show (((n % 10 : Nat)) : Int) = (n : Int) % 10 by omega, ← hb] at C2
  have HX : Hid (a ++ b = B (twL n)) := Lib.hid (by rw [ha, hb]; exact tw_app h)
  have s1 : a.size ≤ 2 := by rw [ha]; exact nu_le _
  have s2 : b.size ≤ 2 := by rw [hb]; exact nu_le _
  clear ha hb
  go_enter Tryd.func16, Tryd.ntmps16
  go_wp2_with (go_at_call 17; first | ((with_reducible refine (C1.out _).mono ?_); rintro e w1 ⟨rfl, hb1⟩) | ((with_reducible refine (C2.out _).mono ?_); rintro e w2 ⟨rfl, hb2⟩))
  go_ret
  exact ⟨retO_str HX.out, hb1.trans (hb2.mono hb1.size)⟩
set_option maxHeartbeats 4000000 in
theorem textR_kind (k n : Int) (hk : kindB k = false) (w : World) : Calls Tryd.prog 8 #[.int .i64 k, .int .i64 n] w fun e w' => e = .returned (.tuple #[.string (showT k n), .int .i64 (showE k n)]) ∧ Below w.heap.size w w' := by
  rw [(showE_kind hk).1, (showE_kind hk).2]
  have C := Lib.hid (fun w => withinO_any k 1 4 w)
  rw [show decide (1 ≤ k ∧ k ≤ 4) = false by unfold kindB at hk; exact hk] at C
  go_enter Tryd.func8, Tryd.ntmps8
  go_wp2_with (go_at_call 15; (with_reducible refine (C.out _).mono ?_); rintro e w1 ⟨rfl, rfl⟩)
  go_ret2
  exact ⟨rfl, Below.refl _ _⟩
set_option maxHeartbeats 4000000 in
theorem textR_range (k n : Int) (hk : kindB k = true) (hn : offOk n = false) (w : World) : Calls Tryd.prog 8 #[.int .i64 k, .int .i64 n] w fun e w' => e = .returned (.tuple #[.string (showT k n), .int .i64 (showE k n)]) ∧ Below w.heap.size w w' := by
  rw [(showE_range hk hn).1, (showE_range hk hn).2]
  have C := Lib.hid (fun w => withinO_any k 1 4 w)
  rw [show decide (1 ≤ k ∧ k ≤ 4) = true by unfold kindB at hk; exact hk] at C
  have C2 := Lib.hid (fun w => withinO_any n (-57600) 57600 w)
  by_cases hr : -57600 ≤ n ∧ n ≤ 57600
  · have hm : ¬ n.tmod 60 = 0 := fun h => by
      rw [offOk_iff.2 ⟨hr.1, hr.2, tmod60.1 h⟩] at hn
      cases hn
    rw [decide_eq_true hr] at C2
    go_enter Tryd.func8, Tryd.ntmps8
    go_wp2_with (go_at_call 15; (first | with_reducible refine (C.out _).mono ?_ | with_reducible refine (C2.out _).mono ?_); rintro e w1 ⟨rfl, rfl⟩)
    go_ret2
    exact ⟨rfl, Below.refl _ _⟩
  · rw [decide_eq_false hr] at C2
    go_enter Tryd.func8, Tryd.ntmps8
    go_wp2_with (go_at_call 15; (first | with_reducible refine (C.out _).mono ?_ | with_reducible refine (C2.out _).mono ?_); rintro e w1 ⟨rfl, rfl⟩)
    go_ret2
    exact ⟨rfl, Below.refl _ _⟩
end Go.Proofs.YtggepbkhhnhnkaaDoor
