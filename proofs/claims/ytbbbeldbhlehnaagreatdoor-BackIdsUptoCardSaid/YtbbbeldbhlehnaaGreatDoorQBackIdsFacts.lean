/- The facts of a row, by the kernel. -/
import Derived.Test.YtbbbeldbhlehnaaGreatDoorCards
import Derived.Test.YtbbbeldbhlehnaaGreatDoorTie
import Derived.JoinedCond
import Derived.Deep.DeepHandedRow
import Derived.Lay
set_option linter.unusedSimpArgs false
set_option linter.unusedVariables false
namespace Go.Proofs.YtbbbeldbhlehnaaGreatDoor
open Go.ChangeShapes Go.WideShapes Go.ChangeAt
set_option maxRecDepth 100000 in
theorem backIds_f_wf : Rows.backIdsUptoRow.wf (OpenSpec.ofChange (Rows.OpenSpec.upto Rows.backIdsSpec).bare) = true := by kernel_rfl
set_option maxRecDepth 100000 in
theorem backIds_f_laid : laidOutB Tryz.prog = true := by kernel_rfl
set_option maxRecDepth 100000 in
theorem backIds_f_rowed : mapsRowed Tryz.prog = true := by kernel_rfl
set_option maxRecDepth 100000 in
theorem backIds_f_read : Tryz.f9.params.all (Tryz.prog.readableRec ·) = true := by kernel_rfl
set_option maxRecDepth 100000 in
theorem backIds_f_tie : namedTie Tryz.prog Rows.backIdsUptoRow.named (Rows.OpenSpec.upto Rows.backIdsSpec).bare.vars = true := by kernel_rfl
set_option maxRecDepth 100000 in
theorem backIds_f_inpl : (Rows.backIdsUptoRow.inPlace == Tryz.prog.inPlace 9) = true := by kernel_rfl
set_option maxRecDepth 100000 in
theorem backIds_f_unf : (Rows.backIdsUptoRow.unfollowed == Tryz.prog.unfollowed 9) = true := by kernel_rfl
set_option maxRecDepth 100000 in
theorem backIds_f_rec : (Rows.backIdsUptoRow.recurses == Tryz.prog.recurses 9) = true := by kernel_rfl
set_option maxRecDepth 100000 in
theorem backIds_f_nam : (Rows.backIdsUptoRow.named == Tryz.prog.varsNamed 9) = true := by kernel_rfl
set_option maxRecDepth 100000 in
theorem backIds_f_maps : (Rows.backIdsUptoRow.maps == (Tryz.f9.params.toList ++ (Rows.OpenSpec.upto Rows.backIdsSpec).bare.plain.varTypes Tryz.prog).any (Tryz.prog.mapsRec ·)) = true := by kernel_rfl
set_option maxRecDepth 100000 in
theorem backIds_f_ifc : (Rows.backIdsUptoRow.ifaces == (Tryz.f9.params.toList ++ (Rows.OpenSpec.upto Rows.backIdsSpec).bare.plain.varTypes Tryz.prog).any (Tryz.prog.ifacesRec ·)) = true := by kernel_rfl
set_option maxRecDepth 100000 in
theorem backIds_f_mapso : (Rows.backIdsUptoRow.mapsOut == Tryz.prog.mapsAmong Tryz.f9.resultTypes.toList) = true := by kernel_rfl
set_option maxRecDepth 100000 in
theorem backIds_f_loops : (Rows.backIdsUptoRow.loops == (Tryz.f9.params.toList ++ (Rows.OpenSpec.upto Rows.backIdsSpec).bare.plain.varTypes Tryz.prog).any (Tryz.prog.loopsFrom ·)) = true := by kernel_rfl
set_option maxRecDepth 100000 in
theorem backIds_f_wide : (Rows.backIdsUptoRow.wideKeys == (Tryz.f9.params.toList ++ (Rows.OpenSpec.upto Rows.backIdsSpec).bare.plain.varTypes Tryz.prog ++ Tryz.f9.resultTypes.toList).any (Tryz.prog.wideKeysFrom ·)) = true := by kernel_rfl
set_option maxRecDepth 100000 in
theorem backIds_f_vread : (Rows.OpenSpec.upto Rows.backIdsSpec).bare.vars.all (Tryz.prog.varReadable ·) = true := by kernel_rfl
set_option maxRecDepth 100000 in
theorem backIds_f_plaink : (Rows.backIdsUptoRow.plainKeys == Tryz.prog.plainKeys) = true := by kernel_rfl
set_option maxRecDepth 100000 in
theorem backIds_f_stops : Tryz.prog.stopsHeard = true := by kernel_rfl
set_option maxRecDepth 100000 in
theorem backIds_f_may : Tryz.prog.mayEnter = true := by kernel_rfl
set_option maxRecDepth 100000 in
theorem backIds_f_lift : (Rows.backIdsUptoRow.lifted == Tryz.prog.liftsFinal) = true := by kernel_rfl
set_option maxRecDepth 100000 in
theorem backIds_f_make : (Tryz.prog.make == some Rows.backIdsUptoRow.make) = true := by kernel_rfl
set_option maxRecDepth 100000 in
theorem backIds_f_veil : (Rows.backIdsUptoRow.veiled == (Tryz.f9.params.toList ++ (Rows.OpenSpec.upto Rows.backIdsSpec).bare.plain.varTypes Tryz.prog ++ Tryz.f9.resultTypes.toList).any (Tryz.prog.veiledRec ·)) = true := by kernel_rfl
set_option maxRecDepth 100000 in
theorem backIds_facts : joinedFacts Tryz.prog 9 Tryz.f9 (Rows.OpenSpec.upto Rows.backIdsSpec).bare Rows.backIdsUptoRow = true := by
  unfold joinedFacts
  simp only [Bool.and_eq_true]
  repeat' (refine And.intro ?_ ?_)
  all_goals (first | with_reducible exact backIds_f_wf | with_reducible exact backIds_f_laid | with_reducible exact backIds_f_rowed | with_reducible exact backIds_f_read | with_reducible exact backIds_f_tie | with_reducible exact backIds_f_inpl | with_reducible exact backIds_f_unf | with_reducible exact backIds_f_rec | with_reducible exact backIds_f_nam | with_reducible exact backIds_f_maps | with_reducible exact backIds_f_ifc | with_reducible exact backIds_f_mapso | with_reducible exact backIds_f_loops | with_reducible exact backIds_f_wide | with_reducible exact backIds_f_vread | with_reducible exact backIds_f_plaink | with_reducible exact backIds_f_stops | with_reducible exact backIds_f_may | with_reducible exact backIds_f_lift | with_reducible exact backIds_f_make | with_reducible exact backIds_f_veil | kernel_rfl)
end Go.Proofs.YtbbbeldbhlehnaaGreatDoor
