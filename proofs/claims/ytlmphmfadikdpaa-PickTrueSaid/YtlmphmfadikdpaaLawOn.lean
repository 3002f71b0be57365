/- An argument of type On, opened. -/
import Derived.Test.YtlmphmfadikdpaaLaw
import Derived.Lib.SmallJoins
set_option linter.unusedVariables false
namespace Go.Proofs.Ytlmphmfadikdpaa
open Go.ChangeShapes Go.WideShapes Go.ChangeAt Go.RowKit Go.Joins

theorem cellsOn : Try.prog.cellsOf 36 = 3 := by kernel_rfl
theorem openOn {H : Type} {enc : TypeId × Value → H} {W : World} {b0 base : Nat} {r : Reach} {spare : Nat → Bool} {held : Bool} {v : Value} {d : DataW H} {p : List MemPlace}
    (hv : Value.okWide Try.prog W r b0 36 v) (h : DataW.Trod enc Try.prog W base spare held 36 v d p) :
    ∃ k wk dd : Int, v = .agg #[.int .i64 k, .int .i64 wk, .int .i64 dd] ∧ (Lit.int .i64 k).wf = true ∧ (Lit.int .i64 wk).wf = true ∧ (Lit.int .i64 dd).wf = true := by
  obtain ⟨c0, c1, c2, y0, y1, y2, m, rfl, rfl, rfl, hy0, hy1, hy2⟩ := open_agg3 Try.underlying36 (by kernel_rfl) cellsOn hv h
  obtain ⟨a, e0, rfl, wa⟩ := DataW.trod_int Try.underlying3 hy0
  obtain ⟨b, e1, rfl, wb⟩ := DataW.trod_int Try.underlying3 hy1
  obtain ⟨c, e2, rfl, wc⟩ := DataW.trod_int Try.underlying3 hy2
  simp at e0 e1 e2
  subst e0 e1 e2
  exact ⟨a, b, c, rfl, wa, wb, wc⟩
end Go.Proofs.Ytlmphmfadikdpaa
