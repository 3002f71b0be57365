/- Parts of a proof, laid together. -/
import Derived.Recover
import Derived.Defers
import Derived.Test.YthhjgndaiimgjaaGreatDoorMUSrcB18
import Derived.Test.YthhjgndaiimgjaaGreatDoorMUSrcB16
import Derived.Test.YthhjgndaiimgjaaGreatDoorMUSrcB9
set_option linter.unusedSimpArgs false
set_option linter.unusedVariables false
/-! The deferred closure of data.Check. -/
section
set_option linter.unusedVariables false
set_option linter.unusedSimpArgs false
namespace Go.Proofs.YthhjgndaiimgjaaGreatDoor
open Go.RowKit Gno
theorem catch_thrown (e0 : Nat) (x E : Int) (w : World) (hc : w.cell? ⟨e0, 0, none⟩ = some (.int .i64 x)) (hz : w.frozen? ⟨e0, 0, none⟩ = false) (hl : e0 < w.heap.size) :
    CallsD Tryz.prog 34 #[.pointer (some ⟨e0, 0, none⟩)] (.panicking (thrown E)) w fun e u' w' =>
      e = .returned (.tuple #[]) ∧ u' = .panicking [{ v := .iface 87 (.agg #[.int .i64 E]), recovered := true }] ∧ w'.cell? ⟨e0, 0, none⟩ = some (.int .i64 E) ∧ Below e0 w w' := by
  refine callsD_of_wpS Tryz.func34 rfl fun c₀ cs hu => ?_
  apply wpS_seq
  apply wpS_region
  simp [wpOpsS, go_sem, recoverD, hu, thrown, Tryz.ntmps34, Exit.thenS]
  have hta : ∀ w, (Instr.typeAssert (.iface 87 (.agg #[.int .i64 E])) 20 87 true).run Tryz.prog w = .ok (.tuple #[.agg #[.int .i64 E], .bool true]) w := fun w => by kernel_rfl
  refine wpS_of_wp ?_
  simp only [Array.replicate_succ, Array.replicate_zero, List.push_toArray, List.append_toArray, List.nil_append, List.cons_append, List.setIfInBounds_toArray, List.set_cons_succ, List.set_cons_zero]
  go_wp2
  have h1 : ((w.setCell ⟨e0, 0, none⟩ (.int .i64 E)).alloc (.cells #[.int .i64 E] 87)).cell? ⟨e0, 0, none⟩ = some (.int .i64 E) := by
    rw [World.cell?_alloc_past _ _ _ (by simpa using hl)]
    exact World.cell?_setCell_same _ _ _ hc
  have h2 : Below e0 w ((w.setCell ⟨e0, 0, none⟩ (.int .i64 E)).alloc (.cells #[.int .i64 E] 87)) := ((Below.refl e0 w).setCell (p := ⟨e0, 0, none⟩) (Nat.le_refl _) _).alloc (by simp; omega) _
  simp [bodyPostS, results, Tryz.results34, h2]
  exact h1
theorem catch_idle (e0 : Nat) (x : Int) (w : World) (hc : w.cell? ⟨e0, 0, none⟩ = some (.int .i64 x)) :
    CallsD Tryz.prog 34 #[.pointer (some ⟨e0, 0, none⟩)] .returning w fun e u' w' =>
      e = .returned (.tuple #[]) ∧ u' = .returning ∧ w'.cell? ⟨e0, 0, none⟩ = some (.int .i64 x) ∧ Below w.heap.size w w' := by
  have hl := lt_of_cell' hc
  refine callsD_of_wpS Tryz.func34 rfl fun c₀ cs hu => ?_
  apply wpS_seq
  apply wpS_region
  simp [wpOpsS, go_sem, recoverD, hu, Tryz.ntmps34, Exit.thenS]
  have hta : ∀ w, (Instr.typeAssert .nilIface 20 87 true).run Tryz.prog w = .ok (.tuple #[.agg #[.int .i64 0], .bool false]) w := fun w => by kernel_rfl
  refine wpS_of_wp ?_
  simp only [Array.replicate_succ, Array.replicate_zero, List.push_toArray, List.append_toArray, List.nil_append, List.cons_append, List.setIfInBounds_toArray, List.set_cons_succ, List.set_cons_zero]
  go_wp2
  have h1 : (w.alloc (.cells #[.int .i64 0] 87)).cell? ⟨e0, 0, none⟩ = some (.int .i64 x) := by
    rw [World.cell?_alloc_past _ _ _ hl]
    exact hc
  have h2 : Below w.heap.size w (w.alloc (.cells #[.int .i64 0] 87)) := (Below.refl _ _).alloc (Nat.le_refl _) _
  cases c₀
  simp_all [bodyPostS, results, Tryz.results34]
end Go.Proofs.YthhjgndaiimgjaaGreatDoor
end
/-! How data.Check's frame leaves: marks of its two loops, then the deferred closure. -/
section
set_option linter.unusedVariables false
set_option linter.unusedSimpArgs false
namespace Go.Proofs.YthhjgndaiimgjaaGreatDoor
open Go.RowKit Gno
abbrev guardD (e0 : Nat) : Deferred := { target := .fn (.func 34) #[.pointer (some ⟨e0, 0, none⟩)], args := #[] }
def DoorR (n0 : Nat) (E : Int) (e : Ending) (w w' : World) : Prop := e = .returned (.int .i64 E) ∧ Below n0 w w'
theorem res_at {tmps : Array Value} {e0 : Nat} {E : Int} {W : World} (ht : tmps[2]? = some (.pointer (some ⟨e0, 0, none⟩))) (hc : W.cell? ⟨e0, 0, none⟩ = some (.int .i64 E)) :
    (results Tryz.f12 tmps).run Tryz.prog W = .ok (.int .i64 E) W := by
  simp [results, Tryz.results12, go_sem, ht, hc]
theorem door_panic {n0 e0 : Nat} {x E : Int} {w W : World} {tmps : Array Value} (hb : Below n0 w W) (hn : n0 ≤ e0) (ho : W.heap[e0]? = some (.cells #[.int .i64 x] 27))
    (ht : tmps[2]? = some (.pointer (some ⟨e0, 0, none⟩))) :
    LeavesV Tryz.prog Tryz.f12 tmps (fun e w' => DoorR n0 E e w w') [guardD e0] (.panicking (thrown E)) W := by
  have hl : e0 < W.heap.size := (Array.getElem?_eq_some_iff.1 ho).1
  have hc : W.cell? ⟨e0, 0, none⟩ = some (.int .i64 x) := by simp [World.cell?, ho]
  have hz : W.frozen? ⟨e0, 0, none⟩ = false := by simp [World.frozen?, ho]
  refine ⟨by simp, .inr ⟨_, _, 34, #[.pointer (some ⟨e0, 0, none⟩)], rfl, ?_, ?_⟩⟩
  · have he := enters_of Tryz.func34 (f := 34) (by kernel_rfl) rfl
    simp [invoke, go_sem, he]
  · intro c cs hu
    obtain ⟨e, u', w', fr, ⟨rfl, rfl, h1, h2⟩, rest⟩ := catch_thrown e0 x E W hc hz hl c cs hu
    refine ⟨_, _, w', fr, ?_, rest⟩
    exact (show ∃ v, (results _ tmps).run Tryz.prog w' = .ok v w' ∧ DoorR n0 E (.returned v) w w' from ⟨_, res_at ht h1, rfl, hb.trans (h2.mono hn)⟩)
theorem door_idle {n0 e0 : Nat} {E : Int} {w W : World} {tmps : Array Value} (hb : Below n0 w W) (hn : n0 ≤ e0) (ho : W.heap[e0]? = some (.cells #[.int .i64 E] 27))
    (ht : tmps[2]? = some (.pointer (some ⟨e0, 0, none⟩))) :
    LeavesV Tryz.prog Tryz.f12 tmps (fun e w' => DoorR n0 E e w w') [guardD e0] .returning W := by
  have hl : e0 < W.heap.size := (Array.getElem?_eq_some_iff.1 ho).1
  have hc : W.cell? ⟨e0, 0, none⟩ = some (.int .i64 E) := by simp [World.cell?, ho]
  refine ⟨by simp, .inr ⟨_, _, 34, #[.pointer (some ⟨e0, 0, none⟩)], rfl, ?_, ?_⟩⟩
  · have he := enters_of Tryz.func34 (f := 34) (by kernel_rfl) rfl
    simp [invoke, go_sem, he]
  · intro c cs hu
    obtain ⟨e, u', w', fr, ⟨rfl, rfl, h1, h2⟩, rest⟩ := catch_idle e0 E W hc c cs hu
    refine ⟨_, _, w', fr, ?_, rest⟩
    exact (show ∃ v, (results _ tmps).run Tryz.prog w' = .ok v w' ∧ DoorR n0 E (.returned v) w w' from ⟨_, res_at ht h1, rfl, hb.trans (h2.mono (by omega))⟩)
end Go.Proofs.YthhjgndaiimgjaaGreatDoor
end
