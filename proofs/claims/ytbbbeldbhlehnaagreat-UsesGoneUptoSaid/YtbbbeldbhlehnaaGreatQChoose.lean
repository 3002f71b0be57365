/- The law's own choose: which of n things a raw number speaks of. -/
import Derived.OpenShut
import Derived.Test.YtbbbeldbhlehnaaGreatMUsesTellsRow0
import Derived.Test.YtbbbeldbhlehnaaGreatMUsesTellsRow1
import Derived.Test.YtbbbeldbhlehnaaGreatMUsesTellsRow2
import Derived.Test.YtbbbeldbhlehnaaGreatMUsesTellsRow3
import Derived.Test.YtbbbeldbhlehnaaGreatMUsesTellsRow4
import Derived.Test.YtbbbeldbhlehnaaGreatMUsesTellsRow5
import Derived.Test.YtbbbeldbhlehnaaGreatMUsesTellsRow6
import Derived.Test.YtbbbeldbhlehnaaGreatMUsesTellsRow7
import Derived.Test.YtbbbeldbhlehnaaGreatMUsesTellsRow8
import Derived.Test.YtbbbeldbhlehnaaGreatMUsesTellsRow9
import Derived.Test.YtbbbeldbhlehnaaGreatMUsesTellsRow10
import Derived.Test.YtbbbeldbhlehnaaGreatMUsesTellsRow11
import Derived.Test.YtbbbeldbhlehnaaGreatMUsesTellsRow12
import Derived.Test.YtbbbeldbhlehnaaGreatMUsesTellsRow13
import Derived.Test.YtbbbeldbhlehnaaGreatMUsesTellsRow14
import Derived.Test.YtbbbeldbhlehnaaGreatMUsesTellsRow15
import Derived.Test.YtbbbeldbhlehnaaGreatMUsesTellsRow16
import Derived.Test.YtbbbeldbhlehnaaGreatMUsesTellsRow17
import Derived.Test.YtbbbeldbhlehnaaGreatMUsesTellsRow18
import Derived.Test.YtbbbeldbhlehnaaGreatMUsesTellsRow19
import Derived.Test.YtbbbeldbhlehnaaGreatMUsesTellsRow20
import Derived.Test.YtbbbeldbhlehnaaGreatMUsesTellsRow21
import Derived.Test.YtbbbeldbhlehnaaGreatMUsesTellsRow22
import Derived.Test.YtbbbeldbhlehnaaGreatMUsesTellsRow23
import Derived.Test.YtbbbeldbhlehnaaGreatMUsesTellsRow24
import Derived.Test.YtbbbeldbhlehnaaGreatMUsesTellsRow25
import Derived.Test.YtbbbeldbhlehnaaGreatMUsesTellsRow26
import Derived.Test.YtbbbeldbhlehnaaGreatMUsesTellsRow27
import Derived.Test.YtbbbeldbhlehnaaGreatMUsesTellsRow28
import Derived.Test.YtbbbeldbhlehnaaGreatMUsesTellsRow29
import Derived.Test.YtbbbeldbhlehnaaGreatMUsesTellsRow30
import Derived.Test.YtbbbeldbhlehnaaGreatMUsesTellsRow31
import Derived.Test.YtbbbeldbhlehnaaGreatMUsesTellsRow32
import Derived.Test.YtbbbeldbhlehnaaGreatMUsesTellsRow33
import Derived.Test.YtbbbeldbhlehnaaGreatMUsesTellsRow34
import Derived.Test.YtbbbeldbhlehnaaGreatMUsesTellsRow35
import Derived.Test.YtbbbeldbhlehnaaGreatMUsesTellsRow36
import Derived.Test.YtbbbeldbhlehnaaGreatMUsesTellsRow37
import Derived.Test.YtbbbeldbhlehnaaGreatMUsesTellsRow38
import Derived.Test.YtbbbeldbhlehnaaGreatMUsesTellsRow39
set_option linter.unusedSimpArgs false
set_option linter.unusedVariables false
set_option linter.unusedVariables false
set_option linter.unusedSimpArgs false
namespace Gno
def chooseN (c n : Int) : Int := (if c < 0 then -(c + 1) else c) % n
theorem chooseN_bd (c n : Int) (h : 1 ≤ n) : 0 ≤ chooseN c n ∧ chooseN c n < n := by
  unfold chooseN
  exact ⟨Int.emod_nonneg _ (by omega), Int.emod_lt_of_pos _ (by omega)⟩
end Gno
namespace Go.Proofs.YtbbbeldbhlehnaaGreat
open Go.RowKit Gno

theorem wf_bd {c : Int} (h : (Lit.int .i64 c).wf = true) : -9223372036854775808 ≤ c ∧ c ≤ 9223372036854775807 := bounds_i64 h

theorem choose_any (c n : Int) (w : World) (hc : (Lit.int .i64 c).wf = true) (h1 : 1 ≤ n) (h2 : n ≤ 4611686018427387904) :
    Calls Tryz.prog 14 #[.int .i64 c, .int .i64 n] w fun e w' => e = .returned (.int .i64 (chooseN c n)) ∧ w = w' := by
  obtain ⟨b1, b2⟩ := wf_bd hc
  clear hc
  have hz : ¬ n = 0 := by omega
  by_cases h : c < 0
  · go_enter Tryz.func14, Tryz.ntmps14
    go_wp2
    go_ret
    exact ⟨ret_int (by unfold chooseN; rw [if_pos h, ← Int.neg_tmod, Int.tmod_eq_emod_of_nonneg (by omega)]), rfl⟩
  · go_enter Tryz.func14, Tryz.ntmps14
    go_wp2
    go_ret
    exact ⟨ret_int (by unfold chooseN; rw [if_neg (by omega)]), rfl⟩
end Go.Proofs.YtbbbeldbhlehnaaGreat
