/- The walk of days.Date; the reference's leaves. -/
import Derived.Test.YtggepbkhhnhnkaaDays2
set_option linter.unusedVariables false
set_option linter.unusedSimpArgs false
namespace Go.Proofs.Ytggepbkhhnhnkaa
open Go.RowKit Gno

theorem results_tmp4 {fn : Func} {t u v x : Tmp} (h : fn.results = #[.tmp t, .tmp u, .tmp v, .tmp x]) (tmps : Array Value) (P : Program) (w : World) :
    (results fn tmps).run P w = .ok (.tuple #[tmps.getD t undef, tmps.getD u undef, tmps.getD v undef, tmps.getD x undef]) w := by simp [results, h]

theorem yOf_guess (n : Int) (h1 : 0 ≤ n) : 1970 ≤ 1970 + n / 366 ∧ 1970 + n / 366 ≤ yOf n := by unfold yOf; omega

end Go.Proofs.Ytggepbkhhnhnkaa
