/- The library's variables that Read meets, as a row lists them. -/
import Derived.Shelf.Vars
import Derived.Stop.LaidErr
import Derived.Test.YtbbbeldbhlehnaaGreatDoorMUNmTl8
import Derived.Test.YtbbbeldbhlehnaaGreatDoorMUNmTl2
set_option linter.unusedSimpArgs false
set_option linter.unusedVariables false
/-! The library's variables that Read meets, as a row lists them. -/
section
set_option linter.unusedVariables false
set_option linter.unusedSimpArgs false
set_option maxRecDepth 100000
namespace Go.Proofs.YtbbbeldbhlehnaaGreatDoor
open Go.RowKit Gno
theorem laidMet_tail {P : Program} {x : String × DataW Unit} {r : List (String × DataW Unit)} {W : World} (h : laidMet P (x :: r) W) : laidMet P r W := by
  obtain ⟨ps, ⟨g0, t0, cs0, f0, p0, q0, hg0, ht0, hv0, hd0, hr, e0⟩, hn, hrows⟩ := h
  subst e0
  exact ⟨q0, hr, (List.nodup_append.1 hn).2.1, fun b off hm => hrows b off (List.mem_append_right _ hm)⟩
theorem star : "*" ++ "errors.errorString" = "*errors.errorString" := by decide
theorem oMet_of {w : World} {r : List (String × DataW Unit)} {text : List UInt8} (h : w.ShapedOpen Tryz.prog) (hl : laidMet Tryz.prog (("strconv.ErrSyntax", .iface "*errors.errorString" (.ptr (.agg [.lit (.string text)]))) :: r) w) : OMet w := by
  refine ⟨cell_of_shapedOpen_int (g := 0) (t := 3) (zero := #[.int .i64 0]) (k := .i64) h (of_decide_eq_true (by kernel_rfl)) (by kernel_rfl) rfl (by kernel_rfl) (by kernel_rfl) Tryz.underlying3, ?_⟩
  have hrow : ∀ u, Tryz.prog.typeName? 3 u = some "*errors.errorString" → u = 279 := fun u h =>
    typeName_ptr_named (nm := "errors.errorString") (by rw [star]; kernel_rfl) (by kernel_rfl) (by decide) u (by rw [star]; exact h)
  obtain ⟨a, s, hv, _⟩ := laid_sentinel (g := 1) (ti := 105) (tp := 279) (te := 281) (ts := 9) hl (by kernel_rfl) (by kernel_rfl) Tryz.underlying105 hrow Tryz.underlying279 Tryz.underlying281 rfl rfl Tryz.underlying9 (by kernel_rfl) (by kernel_rfl)
  have hg : Tryz.prog.globalNamed "strconv.ErrSyntax" = some 1 := by kernel_rfl
  have h0 := World.var?_cell hg hv 0
  exact ⟨_, by simpa using h0, .inr ⟨_, _, rfl⟩⟩
end Go.Proofs.YtbbbeldbhlehnaaGreatDoor
end
