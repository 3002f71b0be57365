/- The facts of a row, by the kernel. -/
import Derived.Test.YtbbbeldbhlehnaaGreatDoorCards
import Derived.Test.YtbbbeldbhlehnaaGreatDoorTie
import Derived.JoinedCond
import Derived.Deep.DeepHandedRow
import Derived.Lay
set_option linter.unusedSimpArgs false
set_option linter.unusedVariables false
namespace Go.Proofs.YtbbbeldbhlehnaaGreatDoor
open Go.ChangeShapes Go.WideShapes Go.ChangeAt
set_option maxRecDepth 100000 in
theorem backTrue_f_wf : Rows.backTrueUptoRow.wf (OpenSpec.ofChange (Rows.OpenSpec.upto Rows.backTrueSpec).bare) = true := by kernel_rfl
set_option maxRecDepth 100000 in
theorem backTrue_f_laid : laidOutB Tryz.prog = true := by kernel_rfl
set_option maxRecDepth 100000 in
theorem backTrue_f_rowed : mapsRowed Tryz.prog = true := by kernel_rfl
set_option maxRecDepth 100000 in
theorem backTrue_f_read : Tryz.f8.params.all (Tryz.prog.readableRec ·) = true := by kernel_rfl
set_option maxRecDepth 100000 in
theorem backTrue_f_tie : namedTie Tryz.prog Rows.backTrueUptoRow.named (Rows.OpenSpec.upto Rows.backTrueSpec).bare.vars = true := by kernel_rfl
set_option maxRecDepth 100000 in
theorem backTrue_f_inpl : (Rows.backTrueUptoRow.inPlace == Tryz.prog.inPlace 8) = true := by kernel_rfl
set_option maxRecDepth 100000 in
theorem backTrue_f_unf : (Rows.backTrueUptoRow.unfollowed == Tryz.prog.unfollowed 8) = true := by kernel_rfl
set_option maxRecDepth 100000 in
theorem backTrue_f_rec : (Rows.backTrueUptoRow.recurses == Tryz.prog.recurses 8) = true := by kernel_rfl
set_option maxRecDepth 100000 in
theorem backTrue_f_nam : (Rows.backTrueUptoRow.named == Tryz.prog.varsNamed 8) = true := by kernel_rfl
set_option maxRecDepth 100000 in
theorem backTrue_f_maps : (Rows.backTrueUptoRow.maps == (Tryz.f8.params.toList ++ (Rows.OpenSpec.upto Rows.backTrueSpec).bare.plain.varTypes Tryz.prog).any (Tryz.prog.mapsRec ·)) = true := by kernel_rfl
set_option maxRecDepth 100000 in
theorem backTrue_f_ifc : (Rows.backTrueUptoRow.ifaces == (Tryz.f8.params.toList ++ (Rows.OpenSpec.upto Rows.backTrueSpec).bare.plain.varTypes Tryz.prog).any (Tryz.prog.ifacesRec ·)) = true := by kernel_rfl
set_option maxRecDepth 100000 in
theorem backTrue_f_mapso : (Rows.backTrueUptoRow.mapsOut == Tryz.prog.mapsAmong Tryz.f8.resultTypes.toList) = true := by kernel_rfl
set_option maxRecDepth 100000 in
theorem backTrue_f_loops : (Rows.backTrueUptoRow.loops == (Tryz.f8.params.toList ++ (Rows.OpenSpec.upto Rows.backTrueSpec).bare.plain.varTypes Tryz.prog).any (Tryz.prog.loopsFrom ·)) = true := by kernel_rfl
set_option maxRecDepth 100000 in
theorem backTrue_f_wide : (Rows.backTrueUptoRow.wideKeys == (Tryz.f8.params.toList ++ (Rows.OpenSpec.upto Rows.backTrueSpec).bare.plain.varTypes Tryz.prog ++ Tryz.f8.resultTypes.toList).any (Tryz.prog.wideKeysFrom ·)) = true := by kernel_rfl
set_option maxRecDepth 100000 in
theorem backTrue_f_vread : (Rows.OpenSpec.upto Rows.backTrueSpec).bare.vars.all (Tryz.prog.varReadable ·) = true := by kernel_rfl
set_option maxRecDepth 100000 in
theorem backTrue_f_plaink : (Rows.backTrueUptoRow.plainKeys == Tryz.prog.plainKeys) = true := by kernel_rfl
set_option maxRecDepth 100000 in
theorem backTrue_f_stops : Tryz.prog.stopsHeard = true := by kernel_rfl
set_option maxRecDepth 100000 in
theorem backTrue_f_may : Tryz.prog.mayEnter = true := by kernel_rfl
set_option maxRecDepth 100000 in
theorem backTrue_f_lift : (Rows.backTrueUptoRow.lifted == Tryz.prog.liftsFinal) = true := by kernel_rfl
set_option maxRecDepth 100000 in
theorem backTrue_f_make : (Tryz.prog.make == some Rows.backTrueUptoRow.make) = true := by kernel_rfl
set_option maxRecDepth 100000 in
theorem backTrue_f_veil : (Rows.backTrueUptoRow.veiled == (Tryz.f8.params.toList ++ (Rows.OpenSpec.upto Rows.backTrueSpec).bare.plain.varTypes Tryz.prog ++ Tryz.f8.resultTypes.toList).any (Tryz.prog.veiledRec ·)) = true := by kernel_rfl
set_option maxRecDepth 100000 in
theorem backTrue_facts : joinedFacts Tryz.prog 8 Tryz.f8 (Rows.OpenSpec.upto Rows.backTrueSpec).bare Rows.backTrueUptoRow = true := by
  unfold joinedFacts
  simp only [Bool.and_eq_true]
  repeat' (refine And.intro ?_ ?_)
  all_goals (first | with_reducible exact backTrue_f_wf | with_reducible exact backTrue_f_laid | with_reducible exact backTrue_f_rowed | with_reducible exact backTrue_f_read | with_reducible exact backTrue_f_tie | with_reducible exact backTrue_f_inpl | with_reducible exact backTrue_f_unf | with_reducible exact backTrue_f_rec | with_reducible exact backTrue_f_nam | with_reducible exact backTrue_f_maps | with_reducible exact backTrue_f_ifc | with_reducible exact backTrue_f_mapso | with_reducible exact backTrue_f_loops | with_reducible exact backTrue_f_wide | with_reducible exact backTrue_f_vread | with_reducible exact backTrue_f_plaink | with_reducible exact backTrue_f_stops | with_reducible exact backTrue_f_may | with_reducible exact backTrue_f_lift | with_reducible exact backTrue_f_make | with_reducible exact backTrue_f_veil | kernel_rfl)
end Go.Proofs.YtbbbeldbhlehnaaGreatDoor
