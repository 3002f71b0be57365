/- The facts of a row, by the kernel. -/
import Derived.Test.YtbbbeldbhlehnaaGreatDoorCards
import Derived.Test.YtbbbeldbhlehnaaGreatDoorTie
import Derived.JoinedCond
import Derived.Deep.DeepHandedRow
import Derived.Lay
set_option linter.unusedSimpArgs false
set_option linter.unusedVariables false
namespace Go.Proofs.YtbbbeldbhlehnaaGreatDoor
open Go.ChangeShapes Go.WideShapes Go.ChangeAt
set_option maxRecDepth 100000 in
theorem backTells_f_wf : Rows.backTellsUptoRow.wf (OpenSpec.ofChange (Rows.OpenSpec.upto Rows.backTellsSpec).bare) = true := by kernel_rfl
set_option maxRecDepth 100000 in
theorem backTells_f_laid : laidOutB Tryz.prog = true := by kernel_rfl
set_option maxRecDepth 100000 in
theorem backTells_f_rowed : mapsRowed Tryz.prog = true := by kernel_rfl
set_option maxRecDepth 100000 in
theorem backTells_f_read : Tryz.f7.params.all (Tryz.prog.readableRec ·) = true := by kernel_rfl
set_option maxRecDepth 100000 in
theorem backTells_f_tie : namedTie Tryz.prog Rows.backTellsUptoRow.named (Rows.OpenSpec.upto Rows.backTellsSpec).bare.vars = true := by kernel_rfl
set_option maxRecDepth 100000 in
theorem backTells_f_inpl : (Rows.backTellsUptoRow.inPlace == Tryz.prog.inPlace 7) = true := by kernel_rfl
set_option maxRecDepth 100000 in
theorem backTells_f_unf : (Rows.backTellsUptoRow.unfollowed == Tryz.prog.unfollowed 7) = true := by kernel_rfl
set_option maxRecDepth 100000 in
theorem backTells_f_rec : (Rows.backTellsUptoRow.recurses == Tryz.prog.recurses 7) = true := by kernel_rfl
set_option maxRecDepth 100000 in
theorem backTells_f_nam : (Rows.backTellsUptoRow.named == Tryz.prog.varsNamed 7) = true := by kernel_rfl
set_option maxRecDepth 100000 in
theorem backTells_f_maps : (Rows.backTellsUptoRow.maps == (Tryz.f7.params.toList ++ (Rows.OpenSpec.upto Rows.backTellsSpec).bare.plain.varTypes Tryz.prog).any (Tryz.prog.mapsRec ·)) = true := by kernel_rfl
set_option maxRecDepth 100000 in
theorem backTells_f_ifc : (Rows.backTellsUptoRow.ifaces == (Tryz.f7.params.toList ++ (Rows.OpenSpec.upto Rows.backTellsSpec).bare.plain.varTypes Tryz.prog).any (Tryz.prog.ifacesRec ·)) = true := by kernel_rfl
set_option maxRecDepth 100000 in
theorem backTells_f_mapso : (Rows.backTellsUptoRow.mapsOut == Tryz.prog.mapsAmong Tryz.f7.resultTypes.toList) = true := by kernel_rfl
set_option maxRecDepth 100000 in
theorem backTells_f_loops : (Rows.backTellsUptoRow.loops == (Tryz.f7.params.toList ++ (Rows.OpenSpec.upto Rows.backTellsSpec).bare.plain.varTypes Tryz.prog).any (Tryz.prog.loopsFrom ·)) = true := by kernel_rfl
set_option maxRecDepth 100000 in
theorem backTells_f_wide : (Rows.backTellsUptoRow.wideKeys == (Tryz.f7.params.toList ++ (Rows.OpenSpec.upto Rows.backTellsSpec).bare.plain.varTypes Tryz.prog ++ Tryz.f7.resultTypes.toList).any (Tryz.prog.wideKeysFrom ·)) = true := by kernel_rfl
set_option maxRecDepth 100000 in
theorem backTells_f_vread : (Rows.OpenSpec.upto Rows.backTellsSpec).bare.vars.all (Tryz.prog.varReadable ·) = true := by kernel_rfl
set_option maxRecDepth 100000 in
theorem backTells_f_plaink : (Rows.backTellsUptoRow.plainKeys == Tryz.prog.plainKeys) = true := by kernel_rfl
set_option maxRecDepth 100000 in
theorem backTells_f_stops : Tryz.prog.stopsHeard = true := by kernel_rfl
set_option maxRecDepth 100000 in
theorem backTells_f_may : Tryz.prog.mayEnter = true := by kernel_rfl
set_option maxRecDepth 100000 in
theorem backTells_f_lift : (Rows.backTellsUptoRow.lifted == Tryz.prog.liftsFinal) = true := by kernel_rfl
set_option maxRecDepth 100000 in
theorem backTells_f_make : (Tryz.prog.make == some Rows.backTellsUptoRow.make) = true := by kernel_rfl
set_option maxRecDepth 100000 in
theorem backTells_f_veil : (Rows.backTellsUptoRow.veiled == (Tryz.f7.params.toList ++ (Rows.OpenSpec.upto Rows.backTellsSpec).bare.plain.varTypes Tryz.prog ++ Tryz.f7.resultTypes.toList).any (Tryz.prog.veiledRec ·)) = true := by kernel_rfl
set_option maxRecDepth 100000 in
theorem backTells_facts : joinedFacts Tryz.prog 7 Tryz.f7 (Rows.OpenSpec.upto Rows.backTellsSpec).bare Rows.backTellsUptoRow = true := by
  unfold joinedFacts
  simp only [Bool.and_eq_true]
  repeat' (refine And.intro ?_ ?_)
  all_goals (first | with_reducible exact backTells_f_wf | with_reducible exact backTells_f_laid | with_reducible exact backTells_f_rowed | with_reducible exact backTells_f_read | with_reducible exact backTells_f_tie | with_reducible exact backTells_f_inpl | with_reducible exact backTells_f_unf | with_reducible exact backTells_f_rec | with_reducible exact backTells_f_nam | with_reducible exact backTells_f_maps | with_reducible exact backTells_f_ifc | with_reducible exact backTells_f_mapso | with_reducible exact backTells_f_loops | with_reducible exact backTells_f_wide | with_reducible exact backTells_f_vread | with_reducible exact backTells_f_plaink | with_reducible exact backTells_f_stops | with_reducible exact backTells_f_may | with_reducible exact backTells_f_lift | with_reducible exact backTells_f_make | with_reducible exact backTells_f_veil | kernel_rfl)
end Go.Proofs.YtbbbeldbhlehnaaGreatDoor
