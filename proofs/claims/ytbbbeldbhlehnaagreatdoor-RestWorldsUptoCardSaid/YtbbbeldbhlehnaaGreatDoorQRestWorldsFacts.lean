/- The facts of a row, by the kernel. -/
import Derived.Test.YtbbbeldbhlehnaaGreatDoorCards
import Derived.Test.YtbbbeldbhlehnaaGreatDoorTie
import Derived.JoinedCond
import Derived.Deep.DeepHandedRow
import Derived.Lay
set_option linter.unusedSimpArgs false
set_option linter.unusedVariables false
namespace Go.Proofs.YtbbbeldbhlehnaaGreatDoor
open Go.ChangeShapes Go.WideShapes Go.ChangeAt
set_option maxRecDepth 100000 in
theorem restWorlds_f_wf : Rows.restWorldsUptoRow.wf (OpenSpec.ofChange (Rows.OpenSpec.upto Rows.restWorldsSpec).bare) = true := by kernel_rfl
set_option maxRecDepth 100000 in
theorem restWorlds_f_laid : laidOutB Tryz.prog = true := by kernel_rfl
set_option maxRecDepth 100000 in
theorem restWorlds_f_rowed : mapsRowed Tryz.prog = true := by kernel_rfl
set_option maxRecDepth 100000 in
theorem restWorlds_f_read : Tryz.f10.params.all (Tryz.prog.readableRec ·) = true := by kernel_rfl
set_option maxRecDepth 100000 in
theorem restWorlds_f_tie : namedTie Tryz.prog Rows.restWorldsUptoRow.named (Rows.OpenSpec.upto Rows.restWorldsSpec).bare.vars = true := by kernel_rfl
set_option maxRecDepth 100000 in
theorem restWorlds_f_inpl : (Rows.restWorldsUptoRow.inPlace == Tryz.prog.inPlace 10) = true := by kernel_rfl
set_option maxRecDepth 100000 in
theorem restWorlds_f_unf : (Rows.restWorldsUptoRow.unfollowed == Tryz.prog.unfollowed 10) = true := by kernel_rfl
set_option maxRecDepth 100000 in
theorem restWorlds_f_rec : (Rows.restWorldsUptoRow.recurses == Tryz.prog.recurses 10) = true := by kernel_rfl
set_option maxRecDepth 100000 in
theorem restWorlds_f_nam : (Rows.restWorldsUptoRow.named == Tryz.prog.varsNamed 10) = true := by kernel_rfl
set_option maxRecDepth 100000 in
theorem restWorlds_f_maps : (Rows.restWorldsUptoRow.maps == (Tryz.f10.params.toList ++ (Rows.OpenSpec.upto Rows.restWorldsSpec).bare.plain.varTypes Tryz.prog).any (Tryz.prog.mapsRec ·)) = true := by kernel_rfl
set_option maxRecDepth 100000 in
theorem restWorlds_f_ifc : (Rows.restWorldsUptoRow.ifaces == (Tryz.f10.params.toList ++ (Rows.OpenSpec.upto Rows.restWorldsSpec).bare.plain.varTypes Tryz.prog).any (Tryz.prog.ifacesRec ·)) = true := by kernel_rfl
set_option maxRecDepth 100000 in
theorem restWorlds_f_mapso : (Rows.restWorldsUptoRow.mapsOut == Tryz.prog.mapsAmong Tryz.f10.resultTypes.toList) = true := by kernel_rfl
set_option maxRecDepth 100000 in
theorem restWorlds_f_loops : (Rows.restWorldsUptoRow.loops == (Tryz.f10.params.toList ++ (Rows.OpenSpec.upto Rows.restWorldsSpec).bare.plain.varTypes Tryz.prog).any (Tryz.prog.loopsFrom ·)) = true := by kernel_rfl
set_option maxRecDepth 100000 in
theorem restWorlds_f_wide : (Rows.restWorldsUptoRow.wideKeys == (Tryz.f10.params.toList ++ (Rows.OpenSpec.upto Rows.restWorldsSpec).bare.plain.varTypes Tryz.prog ++ Tryz.f10.resultTypes.toList).any (Tryz.prog.wideKeysFrom ·)) = true := by kernel_rfl
set_option maxRecDepth 100000 in
theorem restWorlds_f_vread : (Rows.OpenSpec.upto Rows.restWorldsSpec).bare.vars.all (Tryz.prog.varReadable ·) = true := by kernel_rfl
set_option maxRecDepth 100000 in
theorem restWorlds_f_plaink : (Rows.restWorldsUptoRow.plainKeys == Tryz.prog.plainKeys) = true := by kernel_rfl
set_option maxRecDepth 100000 in
theorem restWorlds_f_stops : Tryz.prog.stopsHeard = true := by kernel_rfl
set_option maxRecDepth 100000 in
theorem restWorlds_f_may : Tryz.prog.mayEnter = true := by kernel_rfl
set_option maxRecDepth 100000 in
theorem restWorlds_f_lift : (Rows.restWorldsUptoRow.lifted == Tryz.prog.liftsFinal) = true := by kernel_rfl
set_option maxRecDepth 100000 in
theorem restWorlds_f_make : (Tryz.prog.make == some Rows.restWorldsUptoRow.make) = true := by kernel_rfl
set_option maxRecDepth 100000 in
theorem restWorlds_f_veil : (Rows.restWorldsUptoRow.veiled == (Tryz.f10.params.toList ++ (Rows.OpenSpec.upto Rows.restWorldsSpec).bare.plain.varTypes Tryz.prog ++ Tryz.f10.resultTypes.toList).any (Tryz.prog.veiledRec ·)) = true := by kernel_rfl
set_option maxRecDepth 100000 in
theorem restWorlds_facts : joinedFacts Tryz.prog 10 Tryz.f10 (Rows.OpenSpec.upto Rows.restWorldsSpec).bare Rows.restWorldsUptoRow = true := by
  unfold joinedFacts
  simp only [Bool.and_eq_true]
  repeat' (refine And.intro ?_ ?_)
  all_goals (first | with_reducible exact restWorlds_f_wf | with_reducible exact restWorlds_f_laid | with_reducible exact restWorlds_f_rowed | with_reducible exact restWorlds_f_read | with_reducible exact restWorlds_f_tie | with_reducible exact restWorlds_f_inpl | with_reducible exact restWorlds_f_unf | with_reducible exact restWorlds_f_rec | with_reducible exact restWorlds_f_nam | with_reducible exact restWorlds_f_maps | with_reducible exact restWorlds_f_ifc | with_reducible exact restWorlds_f_mapso | with_reducible exact restWorlds_f_loops | with_reducible exact restWorlds_f_wide | with_reducible exact restWorlds_f_vread | with_reducible exact restWorlds_f_plaink | with_reducible exact restWorlds_f_stops | with_reducible exact restWorlds_f_may | with_reducible exact restWorlds_f_lift | with_reducible exact restWorlds_f_make | with_reducible exact restWorlds_f_veil | kernel_rfl)
end Go.Proofs.YtbbbeldbhlehnaaGreatDoor
