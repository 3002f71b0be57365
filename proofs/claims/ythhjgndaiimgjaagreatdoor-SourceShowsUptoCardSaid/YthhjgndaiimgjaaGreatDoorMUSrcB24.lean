/- The library's variables that the reader of a source meets, as a row lists them. -/
import Derived.Shelf.Vars
import Derived.Stop.LaidErr
import Derived.Lib.LaidTab
import Derived.Test.YthhjgndaiimgjaaGreatDoorMUSrcB20
import Derived.Test.YthhjgndaiimgjaaGreatDoorMUSrcB15
set_option linter.unusedSimpArgs false
set_option linter.unusedVariables false
/-! The library's variables that the reader of a source meets, as a row lists them. -/
section
set_option linter.unusedVariables false
set_option linter.unusedSimpArgs false
set_option maxRecDepth 100000
namespace Go.Proofs.YthhjgndaiimgjaaGreatDoor
open Go.RowKit Gno
theorem laidMet_tail {P : Program} {x : String × DataW Unit} {r : List (String × DataW Unit)} {W : World} (h : laidMet P (x :: r) W) : laidMet P r W := by
  obtain ⟨ps, ⟨g0, t0, cs0, f0, p0, q0, hg0, ht0, hv0, hd0, hr, e0⟩, hn, hrows⟩ := h
  subst e0
  exact ⟨q0, hr, (List.nodup_append.1 hn).2.1, fun b off hm => hrows b off (List.mem_append_right _ hm)⟩
theorem star : "*" ++ "errors.errorString" = "*errors.errorString" := by decide
theorem errRow : ∀ u, Tryz.prog.typeName? 3 u = some "*errors.errorString" → u = 181 := fun u h =>
  typeName_ptr_named (nm := "errors.errorString") (by rw [star]; kernel_rfl) (by kernel_rfl) (by decide) u (by rw [star]; exact h)
theorem lt_of_cellK {w : World} {g : Nat} {v : Value} (h : w.cell? ⟨g, 0, none⟩ = some v) : g < w.heap.size := lt_of_cell' h
theorem err_of {w : World} {r : List (String × DataW Unit)} {text : List UInt8} (hl : laidMet Tryz.prog (("strconv.ErrSyntax", .iface "*errors.errorString" (.ptr (.agg [.lit (.string text)]))) :: r) w) :
    2 < w.heap.size ∧ ∃ ev, w.cell? ⟨2, 0, none⟩ = some ev ∧ (ev = .nilIface ∨ ∃ te pe, ev = .iface te pe) := by
  obtain ⟨a, s, hv, _⟩ := laid_sentinel (g := 2) (ti := 102) (tp := 181) (te := 183) (ts := 9) hl (by kernel_rfl) (by kernel_rfl) Tryz.underlying102 errRow Tryz.underlying181 Tryz.underlying183 rfl rfl Tryz.underlying9 (by kernel_rfl) (by kernel_rfl)
  have hg : Tryz.prog.globalNamed "strconv.ErrSyntax" = some 2 := by kernel_rfl
  have h0 := World.var?_cell hg hv 0
  have h1 : w.cell? ⟨2, 0, none⟩ = some (.iface 181 (.pointer (some a))) := by simpa using h0
  exact ⟨lt_of_cellK h1, _, h1, .inr ⟨_, _, rfl⟩⟩
theorem rng_of {w : World} {r : List (String × DataW Unit)} {text : List UInt8} (hl : laidMet Tryz.prog (("strconv.ErrRange", .iface "*errors.errorString" (.ptr (.agg [.lit (.string text)]))) :: r) w) :
    3 < w.heap.size ∧ ∃ ev, w.cell? ⟨3, 0, none⟩ = some ev ∧ (ev = .nilIface ∨ ∃ te pe, ev = .iface te pe) := by
  obtain ⟨a, s, hv, _⟩ := laid_sentinel (g := 3) (ti := 102) (tp := 181) (te := 183) (ts := 9) hl (by kernel_rfl) (by kernel_rfl) Tryz.underlying102 errRow Tryz.underlying181 Tryz.underlying183 rfl rfl Tryz.underlying9 (by kernel_rfl) (by kernel_rfl)
  have hg : Tryz.prog.globalNamed "strconv.ErrRange" = some 3 := by kernel_rfl
  have h0 := World.var?_cell hg hv 0
  have h1 : w.cell? ⟨3, 0, none⟩ = some (.iface 181 (.pointer (some a))) := by simpa using h0
  exact ⟨lt_of_cellK h1, _, h1, .inr ⟨_, _, rfl⟩⟩
theorem sMet_of {w : World} {x1 x2 x4 : String × DataW Unit} {r : List (String × DataW Unit)} {t1 t2 : List UInt8} (h : w.ShapedOpen Tryz.prog)
    (hl : laidMet Tryz.prog (x1 :: x2 :: ("internal/strconv.uint64pow10", Lib.tabData .u64 Lib.pow10Tab) :: x4 :: ("strconv.ErrRange", .iface "*errors.errorString" (.ptr (.agg [.lit (.string t1)]))) :: ("strconv.ErrSyntax", .iface "*errors.errorString" (.ptr (.agg [.lit (.string t2)]))) :: r) w) : SMet w w.heap.size := by
  have h3 := laidMet_tail (laidMet_tail hl)
  have h5 := laidMet_tail (laidMet_tail h3)
  have hu : ∃ e n, Tryz.prog.underlying 164 = some (.array n e) ∧ Tryz.prog.underlying e = some (.int .u64) ∧ Tryz.prog.cellsOf e = 1 ∧ Tryz.prog.cellsOf 164 = n := ⟨150, 20, by kernel_rfl, by kernel_rfl, by kernel_rfl, by kernel_rfl⟩
  obtain ⟨e, n, u1, u2, u3, u4⟩ := hu
  have ht : Lib.TabIs Tryz.prog w "internal/strconv.uint64pow10" .u64 Lib.pow10Tab := Lib.tabIs_of_head (g := 1) (t := 164) (by kernel_rfl) (by kernel_rfl) u1 u2 u3 u4 h3
  refine ⟨maxAt_of h, err_of (laidMet_tail h5), rng_of h5, ?_, ht⟩
  have := ht.cell (g := 1) (by kernel_rfl) 0 (by decide)
  exact lt_of_cellK this
end Go.Proofs.YthhjgndaiimgjaaGreatDoor
end
