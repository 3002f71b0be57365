/- The law's own choose: which of n things a raw number speaks of. -/
import Derived.OpenShut
import Derived.Test.YtbbbeldbhlehnaaGreatDoorMUBkT3
set_option linter.unusedSimpArgs false
set_option linter.unusedVariables false
section
set_option linter.unusedVariables false
set_option linter.unusedSimpArgs false
namespace Gno
def chooseN (c n : Int) : Int := (if c < 0 then -(c + 1) else c) % n
theorem chooseN_bd (c n : Int) (h : 1 ≤ n) : 0 ≤ chooseN c n ∧ chooseN c n < n := by
 unfold chooseN
 exact ⟨Int.emod_nonneg _ (by omega), Int.emod_lt_of_pos _ (by omega)⟩
end Gno
namespace Go.Proofs.YtbbbeldbhlehnaaGreatDoor
open Go.RowKit Gno
theorem wf_bd {c : Int} (h : (Lit.int .i64 c).wf = true) : -9223372036854775808 ≤ c ∧ c ≤ 9223372036854775807 := bounds_i64 h
theorem choose_any (c n : Int) (w : World) (hc : (Lit.int .i64 c).wf = true) (h1 : 1 ≤ n) (h2 : n ≤ 4611686018427387904) :
 Calls Tryz.prog 19 #[.int .i64 c, .int .i64 n] w fun e w' => e = .returned (.int .i64 (chooseN c n)) ∧ w = w' := by
 obtain ⟨b1, b2⟩ := wf_bd hc
 clear hc
 have hz : ¬ n = 0 := by omega
 by_cases h : c < 0
 ·go_enter Tryz.func19, Tryz.ntmps19
  go_wp2
  go_ret
  exact ⟨ret_int (by unfold chooseN; rw [if_pos h, ← Int.neg_tmod, Int.tmod_eq_emod_of_nonneg (by omega)]), rfl⟩
 ·go_enter Tryz.func19, Tryz.ntmps19
  go_wp2
  go_ret
  exact ⟨ret_int (by unfold chooseN; rw [if_neg (by omega)]), rfl⟩
end Go.Proofs.YtbbbeldbhlehnaaGreatDoor
end
