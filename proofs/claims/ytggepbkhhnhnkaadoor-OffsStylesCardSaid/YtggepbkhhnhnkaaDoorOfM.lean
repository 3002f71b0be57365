/- The library's variables that Read meets, as a row lists them. -/
import Derived.Test.YtggepbkhhnhnkaaDoorOfV
import Derived.Test.YtggepbkhhnhnkaaDoorLaw
import Derived.Shelf.Vars
import Derived.Stop.LaidErr
set_option linter.unusedVariables false
set_option linter.unusedSimpArgs false
namespace Go.Proofs.YtggepbkhhnhnkaaDoor
open Go.RowKit Gno
theorem laidMet_tail {P : Program} {x : String × DataW Unit} {r : List (String × DataW Unit)} {W : World} (h : laidMet P (x :: r) W) : laidMet P r W := by
  obtain ⟨ps, ⟨g0, t0, cs0, f0, p0, q0, hg0, ht0, hv0, hd0, hr, e0⟩, hn, hrows⟩ := h
  subst e0
  exact ⟨q0, hr, (List.nodup_append.1 hn).2.1, fun b off hm => hrows b off (List.mem_append_right _ hm)⟩
theorem star : "*" ++ "errors.errorString" = "*errors.errorString" := by decide
theorem oMet_of {w : World} {r : List (String × DataW Unit)} {text : List UInt8} (h : w.ShapedOpen Tryd.prog) (hl : laidMet Tryd.prog (("strconv.ErrSyntax", .iface "*errors.errorString" (.ptr (.agg [.lit (.string text)]))) :: r) w) : OMet w := by
  refine ⟨cell_of_shapedOpen_int (g := 0) (t := 3) (zero := #[.int .i64 0]) (k := .i64) h (of_decide_eq_true (by kernel_rfl)) (by kernel_rfl) rfl (by kernel_rfl) (by kernel_rfl) Tryd.underlying3, ?_⟩
  have hrow : ∀ u, Tryd.prog.typeName? 3 u = some "*errors.errorString" → u = 79 := fun u h =>
    typeName_ptr_named (nm := "errors.errorString") (by rw [star]; kernel_rfl) (by kernel_rfl) (by decide) u (by rw [star]; exact h)
  obtain ⟨a, s, hv, _⟩ := laid_sentinel (g := 1) (ti := 42) (tp := 79) (te := 81) (ts := 9) hl (by kernel_rfl) (by kernel_rfl) Tryd.underlying42 hrow Tryd.underlying79 Tryd.underlying81 rfl rfl Tryd.underlying9 (by kernel_rfl) (by kernel_rfl)
  have hg : Tryd.prog.globalNamed "strconv.ErrSyntax" = some 1 := by kernel_rfl
  have h0 := World.var?_cell hg hv 0
  exact ⟨_, by simpa using h0, .inr ⟨_, _, rfl⟩⟩
end Go.Proofs.YtggepbkhhnhnkaaDoor
