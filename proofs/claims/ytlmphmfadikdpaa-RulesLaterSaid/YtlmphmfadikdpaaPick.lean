/- The walks of package pick. -/
import Derived.Test.YtlmphmfadikdpaaDays6
import Derived.Test.YtlmphmfadikdpaaPickPlain
import Derived.Deep.QuietTactic
import Derived.BigQuiet
set_option linter.unusedVariables false
namespace Go.Proofs.Ytlmphmfadikdpaa
open Go.RowKit Gno

theorem pcheck_any (k wk d : Int) (w : World) :
    Calls Try.prog 27 #[.agg #[.int .i64 k, .int .i64 wk, .int .i64 d]] w fun e w' => e = .returned (.int .i64 (onE k wk d)) ∧ Below w.heap.size w w' := by
  by_cases h1 : k = 1
  · subst h1
    by_cases h2 : wk = 0
    · subst h2
      go_enter Try.func27, Try.ntmps27
      go_wp2
      all_goals
        go_ret
        exact ⟨ret_int (by unfold onE; simp; try omega), (Below.refl _ _).alloc (Nat.le_refl _) _⟩
    · have hb : (wk != 0) = true := by simpa using h2
      go_enter Try.func27, Try.ntmps27
      go_wp2
      all_goals
        go_ret
        exact ⟨ret_int (by unfold onE; simp; try omega), (Below.refl _ _).alloc (Nat.le_refl _) _⟩
  · by_cases h2 : k = 2
    · subst h2
      go_enter Try.func27, Try.ntmps27
      go_wp2
      all_goals
        go_ret
        exact ⟨ret_int (by unfold onE; simp; try omega), (Below.refl _ _).alloc (Nat.le_refl _) _⟩
    · by_cases h3 : k = 3
      · subst h3
        go_enter Try.func27, Try.ntmps27
        go_wp2
        all_goals
          go_ret
          exact ⟨ret_int (by unfold onE; simp; try omega), (Below.refl _ _).alloc (Nat.le_refl _) _⟩
      · have b1 : (k == 1) = false := by simpa using h1
        have b2 : (k == 2) = false := by simpa using h2
        have b3 : (k == 3) = false := by simpa using h3
        go_enter Try.func27, Try.ntmps27
        go_wp2
        all_goals
          go_ret
          exact ⟨ret_int (by unfold onE; rw [if_neg h1, if_neg h2, if_neg h3]), (Below.refl _ _).alloc (Nat.le_refl _) _⟩

theorem find1_any (c x : Int) (B : Nat) (w : World) (hc : w.cell? ⟨B, 0, none⟩ = some (.int .i64 c)) (c1 : 0 ≤ c) (c2 : c ≤ 21914) (x1 : 0 ≤ x) (x2 : x ≤ 100) :
    Calls Try.prog 50 #[.int .i64 x, .pointer (some ⟨B, 0, none⟩)] w fun e w' => e = .returned (.int .i64 ((c + x + 3) % 7)) ∧ w = w' := by
  go_enter Try.func50, Try.ntmps50
  go_wp2
  go_ret
  exact ⟨rfl, rfl⟩
end Go.Proofs.Ytlmphmfadikdpaa
