/- Parts of a proof, laid together. -/
import Derived.Recover
import Derived.Defers
import Derived.Test.YtlngalmdidaahaaGreatDoorMTableSameRow26
import Derived.Test.YtlngalmdidaahaaGreatDoorMTableSameRow21
import Derived.Test.YtlngalmdidaahaaGreatDoorMTableSameRow19
set_option linter.unusedSimpArgs false
set_option linter.unusedVariables false
/-! The deferred closure of data.Check. -/
section
set_option linter.unusedVariables false
namespace Go.Proofs.YtlngalmdidaahaaGreatDoor
open Go.RowKit Gno
theorem catch_thrown (e0 : Nat) (x E : Int) (w : World) (hc : w.cell? ⟨e0, 0, none⟩ = some (.int .i64 x)) (hz : w.frozen? ⟨e0, 0, none⟩ = false) (hl : e0 < w.heap.size) :
    CallsD Tryz.prog 76 #[.pointer (some ⟨e0, 0, none⟩)] (.panicking (thrown E)) w fun e u' w' =>
      e = .returned (.tuple #[]) ∧ u' = .panicking [{ v := .iface 129 (.agg #[.int .i64 E]), recovered := true }] ∧ w'.cell? ⟨e0, 0, none⟩ = some (.int .i64 E) ∧ Below e0 w w' := by
  refine callsD_of_wpS Tryz.func76 rfl fun c₀ cs hu => ?_
  apply wpS_seq
  apply wpS_region
  simp [wpOpsS, go_sem, recoverD, hu, thrown, Tryz.ntmps76, Exit.thenS]
  have hta : ∀ w, (Instr.typeAssert (.iface 129 (.agg #[.int .i64 E])) 20 129 true).run Tryz.prog w = .ok (.tuple #[.agg #[.int .i64 E], .bool true]) w := fun w => by kernel_rfl
  refine wpS_of_wp ?_
  simp only [Array.replicate_succ, Array.replicate_zero, List.push_toArray, List.append_toArray, List.nil_append, List.cons_append, List.setIfInBounds_toArray, List.set_cons_succ, List.set_cons_zero]
  go_wp2
  have h1 : ((w.setCell ⟨e0, 0, none⟩ (.int .i64 E)).alloc (.cells #[.int .i64 E] 129)).cell? ⟨e0, 0, none⟩ = some (.int .i64 E) := by
    rw [World.cell?_alloc_past _ _ _ (by simpa using hl)]
    exact World.cell?_setCell_same _ _ _ hc
  have h2 : Below e0 w ((w.setCell ⟨e0, 0, none⟩ (.int .i64 E)).alloc (.cells #[.int .i64 E] 129)) := ((Below.refl e0 w).setCell (p := ⟨e0, 0, none⟩) (Nat.le_refl _) _).alloc (by simp; omega) _
  simp [bodyPostS, results, Tryz.results76, h2]
  exact h1
theorem catch_idle (e0 : Nat) (x : Int) (w : World) (hc : w.cell? ⟨e0, 0, none⟩ = some (.int .i64 x)) :
    CallsD Tryz.prog 76 #[.pointer (some ⟨e0, 0, none⟩)] .returning w fun e u' w' =>
      e = .returned (.tuple #[]) ∧ u' = .returning ∧ w'.cell? ⟨e0, 0, none⟩ = some (.int .i64 x) ∧ Below w.heap.size w w' := by
  have hl := lt_of_cell' hc
  refine callsD_of_wpS Tryz.func76 rfl fun c₀ cs hu => ?_
  apply wpS_seq
  apply wpS_region
  simp [wpOpsS, go_sem, recoverD, hu, Tryz.ntmps76, Exit.thenS]
  have hta : ∀ w, (Instr.typeAssert .nilIface 20 129 true).run Tryz.prog w = .ok (.tuple #[.agg #[.int .i64 0], .bool false]) w := fun w => by kernel_rfl
  refine wpS_of_wp ?_
  simp only [Array.replicate_succ, Array.replicate_zero, List.push_toArray, List.append_toArray, List.nil_append, List.cons_append, List.setIfInBounds_toArray, List.set_cons_succ, List.set_cons_zero]
  go_wp2
  have h1 : (w.alloc (.cells #[.int .i64 0] 129)).cell? ⟨e0, 0, none⟩ = some (.int .i64 x) := by
    rw [World.cell?_alloc_past _ _ _ hl]
    exact hc
  have h2 : Below w.heap.size w (w.alloc (.cells #[.int .i64 0] 129)) := (Below.refl _ _).alloc (Nat.le_refl _) _
  cases c₀
  simp_all [bodyPostS, results, Tryz.results76]
end Go.Proofs.YtlngalmdidaahaaGreatDoor
end
/-! How data.Check's frame leaves: marks of its two loops, then the deferred closure. -/
section
set_option linter.unusedVariables false
namespace Go.Proofs.YtlngalmdidaahaaGreatDoor
open Go.RowKit Gno
/-- as the kit's, by deferred calls at no fence, with the marks taken in. -/
def LeavesV (P : Program) (fn : Func) (tmps : Array Value) (R : Ending → World → Prop) : List Deferred → FrameMode → World → Prop
  | [], u, w => Leaves P fn tmps R [] u w
  | d :: ds, u, w => u ≠ .run ∧
      ((∃ r w', d.target = .collected r ∧ (Instr.takeDeferred r).run P w = .ok [] w' ∧ LeavesV P fn tmps R ds u w') ∨
       (∃ fv cap f args, d.target = .fn fv cap ∧ (invoke d.target d.args).run P w = .ok (.enter f args) w ∧
        CallsD P f args u w fun
          | .returned _, u', w' => LeavesV P fn tmps R ds (settle u') w'
          | .panicked chain, u', w' => LeavesV P fn tmps R ds (raised u' chain) w'
          | .outgrown, _, w' => R .outgrown w'))
section
variable {P : Program}
theorem leaves_stepsV {fn : Func} {tmps : Array Value} {R : Ending → World → Prop} : ∀ (ds : List Deferred) (u : FrameMode) (w : World) (fr : Frame)
    (cs : List Frame), fr.mode = u → fr.defers = ds → fr.tmps = tmps → P.funcs[fr.fn]? = some fn → fr.kind = .normal → LeavesV P fn tmps R ds u w →
    ∃ e w' fr', R e w' ∧ Comes P (lone fr cs w) (lone fr' cs w') e ∧ fr'.fn = fr.fn ∧ fr'.leaving P w' e := by
  intro ds
  induction ds with
  | nil => exact fun u w fr cs hu hd ht hf hk h => leaves_steps [] u w fr cs hu hd ht hf hk h
  | cons d ds ih =>
    intro u w fr cs hu hd ht hf hk h
    obtain ⟨hrun, h⟩ := h
    rcases h with ⟨r, w', htar, htake, hrest⟩ | ⟨fv, cap, f, args, htar, hinv, hcall⟩
    · have h1 := step_collected (cs := cs) (hu ▸ hrun) hd htar htake
      obtain ⟨e', w'', fr', hR', hs', hfn', hl'⟩ := ih u w' { fr with defers := [] ++ ds } cs hu rfl ht hf hk hrest
      exact ⟨e', w'', fr', hR', Comes.of_steps (.one h1) hs', hfn', hl'⟩
    · have h1 := step_defer (cs := cs) (hu ▸ hrun) hd htar hinv
      obtain ⟨e, u', w', frX, hR, hsteps, hkX, hgo⟩ := hcall { fr with defers := ds } cs hu
      cases e with
      | returned v =>
        have h2 := step_going_returned (c := { { fr with defers := ds } with mode := u' }) (cs := cs) hkX hgo
        obtain ⟨e', w'', fr', hR', hs', hfn', hl'⟩ := ih (settle u') w' { { { fr with defers := ds } with mode := u' } with mode := settle u' } cs rfl rfl ht hf hk hR
        exact ⟨e', w'', fr', hR', Comes.of_steps (.head h1 (Steps.trans hsteps (.one h2))) hs', hfn', hl'⟩
      | panicked chain =>
        have h2 := step_going_panicked (c := { { fr with defers := ds } with mode := u' }) (cs := cs) hgo
        obtain ⟨e', w'', fr', hR', hs', hfn', hl'⟩ := ih (raised u' chain) w' { { { fr with defers := ds } with mode := u' } with mode := raised u' chain } cs rfl rfl ht hf hk hR
        exact ⟨e', w'', fr', hR', Comes.of_steps (.head h1 (Steps.trans hsteps (.one h2))) hs', hfn', hl'⟩
      | outgrown => exact ⟨.outgrown, w', fr, hR, Outgrown.of_steps (.one h1) hsteps, rfl, trivial⟩
def bodyPostV (P : Program) (fn : Func) (R : Ending → World → Prop) : Exit → Act → World → Prop
  | .normal, a, w | .ret, a, w => LeavesV P fn a.tmps R a.defers .returning w
  | .panic chain, a, w => LeavesV P fn a.tmps R a.defers (.panicking chain) w
  | .outgrown, _, w => R .outgrown w
  | _, _, _ => False
/-- a function's contract from its body, where the body may hold a range over a function, and defers. -/
theorem calls_of_wpU {f : FuncId} {fn : Func} {c : Code} {args : Array Value} {R : Ending → World → Prop} {w : World} (hf : P.funcs[f]? = some fn) (hb : fn.body = some c)
    (h : Code.wpV P c (bodyPostV P fn R) { tmps := args ++ Array.replicate (fn.ntmps - args.size) undef, defers := [] } w) : Calls P f args w R := by
  intro cs
  let b : Frame := { (default : Frame) with fn := f, kind := .normal }
  have henter : Frame.enter P f args .normal =
      b.at { tmps := args ++ Array.replicate (fn.ntmps - args.size) undef, defers := [] } [.code c] := by
    simp [Frame.enter, Frame.at, hf, hb, b]
  obtain ⟨e, a', w', hq, harr⟩ := h b [] cs ⟨fn, hf⟩
  rw [← henter] at harr
  cases e with
  | normal =>
    obtain ⟨e', w'', fr', hR, hs, hfn, hl⟩ := leaves_stepsV a'.defers .returning w' { b.at a' [] with mode := .returning } cs rfl rfl rfl hf rfl hq
    exact ⟨e', w'', fr', hR, Comes.of_steps (Steps.trans harr (.one step_end)) hs, hfn, hl⟩
  | ret =>
    obtain ⟨todo, hs₀⟩ := harr
    obtain ⟨e', w'', fr', hR, hs, hfn, hl⟩ := leaves_stepsV a'.defers .returning w' { b.at a' todo with mode := .returning } cs rfl rfl rfl hf rfl hq
    exact ⟨e', w'', fr', hR, Comes.of_steps hs₀ hs, hfn, hl⟩
  | panic chain =>
    obtain ⟨todo, hs₀⟩ := harr
    obtain ⟨e', w'', fr', hR, hs, hfn, hl⟩ := leaves_stepsV a'.defers (.panicking chain) w' { b.at a' todo with mode := .panicking chain } cs rfl rfl rfl hf rfl hq
    exact ⟨e', w'', fr', hR, Comes.of_steps hs₀ hs, hfn, hl⟩
  | exit id => exact hq.elim
  | goto l => exact hq.elim
  | outgrown => exact ⟨.outgrown, w', b, hq, harr.resolve_left (by simp [b]), rfl, trivial⟩
end
abbrev guardD (e0 : Nat) : Deferred := { target := .fn (.func 76) #[.pointer (some ⟨e0, 0, none⟩)], args := #[] }
abbrev markD (r : Nat) : Deferred := { target := .collected r, args := #[] }
def DoorR (n0 : Nat) (E : Int) (e : Ending) (w w' : World) : Prop := e = .returned (.int .i64 E) ∧ Below n0 w w'
theorem door_mark {P : Program} {fn : Func} {tmps : Array Value} {R : Ending → World → Prop} {ds : List Deferred} {u : FrameMode} {r : Nat} {W : World} (hu : u ≠ .run) (h : W.heap[r]? = some (.deferred (some [])))
    (k : LeavesV P fn tmps R ds u (W.putObj r (.deferred none))) : LeavesV P fn tmps R (markD r :: ds) u W :=
  ⟨hu, .inl ⟨r, _, rfl, run_takeDeferred h, k⟩⟩
theorem res_at {tmps : Array Value} {e0 : Nat} {E : Int} {W : World} (ht : tmps[2]? = some (.pointer (some ⟨e0, 0, none⟩))) (hc : W.cell? ⟨e0, 0, none⟩ = some (.int .i64 E)) :
    (results Tryz.f39 tmps).run Tryz.prog W = .ok (.int .i64 E) W := by
  simp [results, Tryz.results39, go_sem, ht, hc]
theorem door_panic {n0 e0 : Nat} {x E : Int} {w W : World} {tmps : Array Value} (hb : Below n0 w W) (hn : n0 ≤ e0) (ho : W.heap[e0]? = some (.cells #[.int .i64 x] 29))
    (ht : tmps[2]? = some (.pointer (some ⟨e0, 0, none⟩))) :
    LeavesV Tryz.prog Tryz.f39 tmps (fun e w' => DoorR n0 E e w w') [guardD e0] (.panicking (thrown E)) W := by
  have hl : e0 < W.heap.size := (Array.getElem?_eq_some_iff.1 ho).1
  have hc : W.cell? ⟨e0, 0, none⟩ = some (.int .i64 x) := by simp [World.cell?, ho]
  have hz : W.frozen? ⟨e0, 0, none⟩ = false := by simp [World.frozen?, ho]
  refine ⟨by simp, .inr ⟨_, _, 76, #[.pointer (some ⟨e0, 0, none⟩)], rfl, ?_, ?_⟩⟩
  · have he := enters_of Tryz.func76 (f := 76) (by kernel_rfl) rfl
    simp [invoke, go_sem, he]
  · intro c cs hu
    obtain ⟨e, u', w', fr, ⟨rfl, rfl, h1, h2⟩, rest⟩ := catch_thrown e0 x E W hc hz hl c cs hu
    refine ⟨_, _, w', fr, ?_, rest⟩
    exact (show ∃ v, (results _ tmps).run Tryz.prog w' = .ok v w' ∧ DoorR n0 E (.returned v) w w' from ⟨_, res_at ht h1, rfl, hb.trans (h2.mono hn)⟩)
theorem door_idle {n0 e0 : Nat} {E : Int} {w W : World} {tmps : Array Value} (hb : Below n0 w W) (hn : n0 ≤ e0) (ho : W.heap[e0]? = some (.cells #[.int .i64 E] 29))
    (ht : tmps[2]? = some (.pointer (some ⟨e0, 0, none⟩))) :
    LeavesV Tryz.prog Tryz.f39 tmps (fun e w' => DoorR n0 E e w w') [guardD e0] .returning W := by
  have hl : e0 < W.heap.size := (Array.getElem?_eq_some_iff.1 ho).1
  have hc : W.cell? ⟨e0, 0, none⟩ = some (.int .i64 E) := by simp [World.cell?, ho]
  refine ⟨by simp, .inr ⟨_, _, 76, #[.pointer (some ⟨e0, 0, none⟩)], rfl, ?_, ?_⟩⟩
  · have he := enters_of Tryz.func76 (f := 76) (by kernel_rfl) rfl
    simp [invoke, go_sem, he]
  · intro c cs hu
    obtain ⟨e, u', w', fr, ⟨rfl, rfl, h1, h2⟩, rest⟩ := catch_idle e0 E W hc c cs hu
    refine ⟨_, _, w', fr, ?_, rest⟩
    exact (show ∃ v, (results _ tmps).run Tryz.prog w' = .ok v w' ∧ DoorR n0 E (.returned v) w w' from ⟨_, res_at ht h1, rfl, hb.trans (h2.mono (by omega))⟩)
end Go.Proofs.YtlngalmdidaahaaGreatDoor
end
