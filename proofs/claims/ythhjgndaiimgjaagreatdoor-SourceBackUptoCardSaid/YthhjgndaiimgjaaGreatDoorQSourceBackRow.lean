/- Proved: for every data and text, together of bulk at most 1048576, the statement SourceBack returns true: what Show shows is read as the data that it was shown of, and what is read is shown as the text that it was read of. -/
import Derived.Test.YthhjgndaiimgjaaGreatDoorCards
import Derived.Test.YthhjgndaiimgjaaGreatDoorTie
import Derived.JoinedCond
import Derived.Deep.DeepHandedRow
import Derived.Lay
import Derived.Test.YthhjgndaiimgjaaGreatDoorMUSrcB35
import Derived.Test.YthhjgndaiimgjaaGreatDoorMUSrcB24
import Derived.Test.YthhjgndaiimgjaaGreatDoorMUSrcB11
import Derived.Test.YthhjgndaiimgjaaGreatDoorMUSrcB15
set_option linter.unusedSimpArgs false
set_option linter.unusedVariables false
set_option linter.unusedVariables false
set_option linter.unusedSimpArgs false
namespace Go.Proofs.YthhjgndaiimgjaaGreatDoor
open Go.ChangeShapes Go.WideShapes Go.ChangeAt Go.RowKit Gno
theorem sourceBack_met (os : Os) : laidMetH Tryz.prog Rows.sourceBackUptoRow.laid ((World.laidAll Tryz.prog os Rows.sourceBackUptoRow.laid).forCall (fun _ _ => 0) ⟨#[], #[.agg #[.slice none 0 0, .slice none 0 0, .slice none 0 0], .string ⟨#[]⟩], []⟩).memory := by
  rw [MakeChecks.laidMetH_plain _ _ _ (by kernel_rfl)]
  exact laidMet_laidAll _ (by kernel_rfl) (by kernel_rfl)
set_option maxRecDepth 100000 in
theorem sourceBack_lifted (os : Os) (started : os.Started) (H : Type) (enc : TypeId × Value → H) (F : Stop.Interp) :
    ReturnsInHanded {} Tryz.checked os 4 .any ((Rows.OpenSpec.upto Rows.sourceBackSpec).preRow enc Tryz.prog Tryz.f4 Rows.sourceBackUptoRow.domain false Rows.sourceBackUptoRow.laid) (((Rows.OpenSpec.upto Rows.sourceBackSpec).at F).post enc Tryz.prog Tryz.f4 false true false false) := by
  refine returnsInHanded_of_row (C := Tryz.checked) (s := Rows.OpenSpec.upto Rows.sourceBackSpec) own started (by kernel_rfl) Tryz.func4
    (witness_row_at (enc := enc) (C := Tryz.checked) false (World.laidAll Tryz.prog os Rows.sourceBackUptoRow.laid) #[.agg #[.slice none 0 0, .slice none 0 0, .slice none 0 0], .string ⟨#[]⟩] (World.laidAll_os _ _ _) (by kernel_rfl) (by kernel_rfl) (by kernel_rfl)
      (OpenSpec.preRow_of_cond 8 (x := ([.agg [.nil, .nil, .nil], .lit (.string [])], [], [])) (by kernel_rfl) (by kernel_rfl) (fun k hk => by cases hk; kernel_rfl) (by kernel_rfl) (sourceBack_met os))) ?_
  intro W base args ds gs before hval0 hW _ hcond _ hlaid hsh _
  have hk : Rows.uptoSmall H (ds ++ gs) = true := hcond _ rfl
  have hval : ∀ (j : Nat) t v, Tryz.f4.params[j]? = some t → args[j]? = some v → Value.okWide Tryz.prog W .any base t v := hval0
  have hW' : DataW.Whole enc Tryz.prog Tryz.f4.params.toList Rows.sourceBackSpec.vars false W args.toList ds gs before := hW
  obtain ⟨p, q, hA0, hV, rfl, hfz, hnd⟩ := hW'
  have hW' : DataW.Whole enc Tryz.prog Tryz.f4.params.toList Rows.sourceBackSpec.vars false W args.toList ds gs (p ++ q) := hW
  have hA : DataW.TrodAll enc Tryz.prog W 0 (fun _ => true) true Tryz.f4.params.toList args.toList ds p := hA0
  rw [Tryz.params4] at hA hval
  obtain ⟨v0, vs0, d0, ds0, p0, q0, hargs, rfl, rfl, h0, r0⟩ := trodAll_cons hA
  obtain ⟨v1, vs1, d1, ds1, p1, q1, rfl, rfl, rfl, h1, r1⟩ := trodAll_cons r0
  obtain ⟨rfl, rfl, rfl⟩ := trodAll_nil r1
  obtain rfl : args = #[v0, v1] := by cases args; simp_all
  obtain ⟨rfl, rfl⟩ := trodVars_none hV
  obtain ⟨dt0, rfl, hD0⟩ := openData (hval 0 26 v0 rfl rfl) h0 (small_of hk (by simp))
  obtain ⟨a1, rfl, rfl, rfl, w1⟩ := ChangeMaps.open_string Tryz.underlying9 (hval 1 9 v1 rfl rfl) h1
  clear hA0 hval0
  refine (sourceBack_walk dt0 a1 W hD0 (sMet_of hsh (by rw [MakeChecks.laidMetH_plain _ _ _ (by kernel_rfl)] at hlaid; exact hlaid))).mono fun e W' ⟨he, hg⟩ => ?_
  subst he
  exact ⟨_, rfl, law_post laidOut (by kernel_rfl) rfl rfl Tryz.underlying4 hW' hg rfl rfl rfl⟩
set_option maxRecDepth 100000 in
theorem sourceBack_f_wf : Rows.sourceBackUptoRow.wf (OpenSpec.ofChange (Rows.OpenSpec.upto Rows.sourceBackSpec).bare) = true := by kernel_rfl
set_option maxRecDepth 100000 in
theorem sourceBack_f_laid : laidOutB Tryz.prog = true := by kernel_rfl
set_option maxRecDepth 100000 in
theorem sourceBack_f_rowed : mapsRowed Tryz.prog = true := by kernel_rfl
set_option maxRecDepth 100000 in
theorem sourceBack_f_read : Tryz.f4.params.all (Tryz.prog.readableRec ·) = true := by kernel_rfl
set_option maxRecDepth 100000 in
theorem sourceBack_f_tie : namedTie Tryz.prog Rows.sourceBackUptoRow.named (Rows.OpenSpec.upto Rows.sourceBackSpec).bare.vars = true := by kernel_rfl
set_option maxRecDepth 100000 in
theorem sourceBack_f_inpl : (Rows.sourceBackUptoRow.inPlace == Tryz.prog.inPlace 4) = true := by kernel_rfl
set_option maxRecDepth 100000 in
theorem sourceBack_f_unf : (Rows.sourceBackUptoRow.unfollowed == Tryz.prog.unfollowed 4) = true := by kernel_rfl
set_option maxRecDepth 100000 in
theorem sourceBack_f_rec : (Rows.sourceBackUptoRow.recurses == Tryz.prog.recurses 4) = true := by kernel_rfl
set_option maxRecDepth 100000 in
theorem sourceBack_f_nam : (Rows.sourceBackUptoRow.named == Tryz.prog.varsNamed 4) = true := by kernel_rfl
set_option maxRecDepth 100000 in
theorem sourceBack_f_maps : (Rows.sourceBackUptoRow.maps == (Tryz.f4.params.toList ++ (Rows.OpenSpec.upto Rows.sourceBackSpec).bare.plain.varTypes Tryz.prog).any (Tryz.prog.mapsRec ·)) = true := by kernel_rfl
set_option maxRecDepth 100000 in
theorem sourceBack_f_ifc : (Rows.sourceBackUptoRow.ifaces == (Tryz.f4.params.toList ++ (Rows.OpenSpec.upto Rows.sourceBackSpec).bare.plain.varTypes Tryz.prog).any (Tryz.prog.ifacesRec ·)) = true := by kernel_rfl
set_option maxRecDepth 100000 in
theorem sourceBack_f_mapso : (Rows.sourceBackUptoRow.mapsOut == Tryz.prog.mapsAmong Tryz.f4.resultTypes.toList) = true := by kernel_rfl
set_option maxRecDepth 100000 in
theorem sourceBack_f_loops : (Rows.sourceBackUptoRow.loops == (Tryz.f4.params.toList ++ (Rows.OpenSpec.upto Rows.sourceBackSpec).bare.plain.varTypes Tryz.prog).any (Tryz.prog.loopsFrom ·)) = true := by kernel_rfl
set_option maxRecDepth 100000 in
theorem sourceBack_f_wide : (Rows.sourceBackUptoRow.wideKeys == (Tryz.f4.params.toList ++ (Rows.OpenSpec.upto Rows.sourceBackSpec).bare.plain.varTypes Tryz.prog ++ Tryz.f4.resultTypes.toList).any (Tryz.prog.wideKeysFrom ·)) = true := by kernel_rfl
set_option maxRecDepth 100000 in
theorem sourceBack_f_vread : (Rows.OpenSpec.upto Rows.sourceBackSpec).bare.vars.all (Tryz.prog.varReadable ·) = true := by kernel_rfl
set_option maxRecDepth 100000 in
theorem sourceBack_f_plaink : (Rows.sourceBackUptoRow.plainKeys == Tryz.prog.plainKeys) = true := by kernel_rfl
set_option maxRecDepth 100000 in
theorem sourceBack_f_stops : Tryz.prog.stopsHeard = true := by kernel_rfl
set_option maxRecDepth 100000 in
theorem sourceBack_f_may : Tryz.prog.mayEnter = true := by kernel_rfl
set_option maxRecDepth 100000 in
theorem sourceBack_f_lift : (Rows.sourceBackUptoRow.lifted == Tryz.prog.liftsFinal) = true := by kernel_rfl
set_option maxRecDepth 100000 in
theorem sourceBack_f_make : (Tryz.prog.make == some Rows.sourceBackUptoRow.make) = true := by kernel_rfl
set_option maxRecDepth 100000 in
theorem sourceBack_f_veil : (Rows.sourceBackUptoRow.veiled == (Tryz.f4.params.toList ++ (Rows.OpenSpec.upto Rows.sourceBackSpec).bare.plain.varTypes Tryz.prog ++ Tryz.f4.resultTypes.toList).any (Tryz.prog.veiledRec ·)) = true := by kernel_rfl
set_option maxRecDepth 100000 in
theorem sourceBack_facts : joinedFacts Tryz.prog 4 Tryz.f4 (Rows.OpenSpec.upto Rows.sourceBackSpec).bare Rows.sourceBackUptoRow = true := by
  unfold joinedFacts
  simp only [Bool.and_eq_true]
  repeat' (refine And.intro ?_ ?_)
  all_goals (first | with_reducible exact sourceBack_f_wf | with_reducible exact sourceBack_f_laid | with_reducible exact sourceBack_f_rowed | with_reducible exact sourceBack_f_read | with_reducible exact sourceBack_f_tie | with_reducible exact sourceBack_f_inpl | with_reducible exact sourceBack_f_unf | with_reducible exact sourceBack_f_rec | with_reducible exact sourceBack_f_nam | with_reducible exact sourceBack_f_maps | with_reducible exact sourceBack_f_ifc | with_reducible exact sourceBack_f_mapso | with_reducible exact sourceBack_f_loops | with_reducible exact sourceBack_f_wide | with_reducible exact sourceBack_f_vread | with_reducible exact sourceBack_f_plaink | with_reducible exact sourceBack_f_stops | with_reducible exact sourceBack_f_may | with_reducible exact sourceBack_f_lift | with_reducible exact sourceBack_f_make | with_reducible exact sourceBack_f_veil | kernel_rfl)
theorem sourceBack_said : Rows.SourceBackUptoSaid :=
  OpenClaim.holds_of_cond 4 Tryz.f4 rfl rfl rfl rfl rfl rfl rfl ⟨rfl, rfl, rfl, rfl, rfl⟩ rfl rfl rfl rfl rfl (by kernel_rfl) Tryz.func4 sourceBack_facts
    (of_decide_eq_true (by kernel_rfl)) (by unfold Func.isWrapper; first | (rw [if_pos (by decide +kernel)]; kernel_rfl) | (rw [if_neg (by decide +kernel)]; exact ⟨rfl, rfl⟩))
    (fun os started H enc _ F => by rw [OpenClaim.pre_eq_preRow]; exact sourceBack_lifted os started H enc F)
theorem sourceBack_plain (f : FuncId) (fn : Func) (hf : Tryz.pinned.checked.prog.funcNamed "gnomon/gnomonlaw.SourceBack" = some f) (hfn : Tryz.pinned.checked.prog.funcs[f]? = some fn) :
    true = Tryz.pinned.checked.prog.looks [] ∧ ∀ (j : Nat) t, fn.params[j]? = some t → Tryz.pinned.checked.prog.wantsStandIn t = false := by
  obtain rfl : f = 4 := Option.some.inj ((show Tryz.prog.funcNamed "gnomon/gnomonlaw.SourceBack" = some 4 by kernel_rfl).symm.trans hf) |>.symm
  obtain rfl : fn = Tryz.f4 := (Option.some.inj (Tryz.func4.symm.trans hfn)).symm
  refine ⟨by kernel_rfl, fun j t ht => ?_⟩
  rw [Tryz.params4] at ht
  have hm : t ∈ [26, 9] := by simpa using Array.mem_of_getElem? ht
  simp only [List.mem_cons, List.mem_nil_iff, or_false] at hm
  rcases hm with rfl | rfl
  · exact (show Tryz.prog.wantsStandIn 26 = false by kernel_rfl)
  · exact (show Tryz.prog.wantsStandIn 9 = false by kernel_rfl)
theorem sourceBack_holds : Rows.SourceBackUptoCardSaid :=
  Claim7.holds_tied_plain_at .later [] _ _ _ _ sourceBack_said (fun _ h => by cases h) (by kernel_rfl) (fun _ h => by cases h) sourceBackUpto_row_tie rfl ⟨rfl, rfl⟩ (by kernel_rfl) rfl sourceBack_plain (by kernel_rfl)
#print axioms sourceBack_holds
end Go.Proofs.YthhjgndaiimgjaaGreatDoor
