/- The walk of the reference's IsName. -/
import Derived.Test.YtggepbkhhnhnkaaNames2
import Derived.Test.YtggepbkhhnhnkaaDays4
set_option linter.unusedVariables false
set_option linter.unusedSimpArgs false
namespace Gno
theorem isNm_no {v : Int} (h0 : 0 ≤ v) (h : isNm v.toNat = false) : isLet v.toNat = false ∧ ¬ (48 ≤ v ∧ v ≤ 57) ∧ v ≠ 47 ∧ v ≠ 95 ∧ v ≠ 43 ∧ v ≠ 45 := by
  simp only [isNm, Bool.or_eq_false_iff, decide_eq_false_iff_not] at h
  obtain ⟨⟨⟨⟨⟨a, b⟩, c⟩, d⟩, e⟩, f⟩ := h
  exact ⟨a, by omega, by omega, by omega, by omega, by omega⟩
theorem isNm_yes {v : Int} (h0 : 0 ≤ v) (h : isNm v.toNat = true) (hl : isLet v.toNat = false) : (48 ≤ v ∧ v ≤ 57) ∨ v = 47 ∨ v = 95 ∨ v = 43 ∨ v = 45 := by
  simp [isNm, hl] at h
  omega
end Gno
namespace Go.Proofs.Ytggepbkhhnhnkaa
open Go.RowKit Gno
end Go.Proofs.Ytggepbkhhnhnkaa
