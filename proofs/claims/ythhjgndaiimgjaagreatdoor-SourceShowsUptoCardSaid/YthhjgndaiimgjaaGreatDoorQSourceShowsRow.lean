/- Proved: for every data and text, together of bulk at most 1048576, the statement SourceShows returns true: Show and Read answer what the reference answers. -/
import Derived.Test.YthhjgndaiimgjaaGreatDoorCards
import Derived.Test.YthhjgndaiimgjaaGreatDoorTie
import Derived.JoinedCond
import Derived.Deep.DeepHandedRow
import Derived.Lay
import Derived.Test.YthhjgndaiimgjaaGreatDoorQSrcW
import Derived.Test.YthhjgndaiimgjaaGreatDoorMUSrcB24
import Derived.Test.YthhjgndaiimgjaaGreatDoorMUSrcB11
import Derived.Test.YthhjgndaiimgjaaGreatDoorMUSrcB15
set_option linter.unusedSimpArgs false
set_option linter.unusedVariables false
set_option linter.unusedVariables false
set_option linter.unusedSimpArgs false
namespace Go.Proofs.YthhjgndaiimgjaaGreatDoor
open Go.ChangeShapes Go.WideShapes Go.ChangeAt Go.RowKit Gno
theorem sourceShows_met (os : Os) : laidMetH Tryz.prog Rows.sourceShowsUptoRow.laid ((World.laidAll Tryz.prog os Rows.sourceShowsUptoRow.laid).forCall (fun _ _ => 0) ⟨#[], #[.agg #[.slice none 0 0, .slice none 0 0, .slice none 0 0], .string ⟨#[]⟩], []⟩).memory := by
  rw [MakeChecks.laidMetH_plain _ _ _ (by kernel_rfl)]
  exact laidMet_laidAll _ (by kernel_rfl) (by kernel_rfl)
set_option maxRecDepth 100000 in
theorem sourceShows_lifted (os : Os) (started : os.Started) (H : Type) (enc : TypeId × Value → H) (F : Stop.Interp) :
    ReturnsInHanded {} Tryz.checked os 3 .any ((Rows.OpenSpec.upto Rows.sourceShowsSpec).preRow enc Tryz.prog Tryz.f3 Rows.sourceShowsUptoRow.domain false Rows.sourceShowsUptoRow.laid) (((Rows.OpenSpec.upto Rows.sourceShowsSpec).at F).post enc Tryz.prog Tryz.f3 false true false false) := by
  refine returnsInHanded_of_row (C := Tryz.checked) (s := Rows.OpenSpec.upto Rows.sourceShowsSpec) own started (by kernel_rfl) Tryz.func3
    (witness_row_at (enc := enc) (C := Tryz.checked) false (World.laidAll Tryz.prog os Rows.sourceShowsUptoRow.laid) #[.agg #[.slice none 0 0, .slice none 0 0, .slice none 0 0], .string ⟨#[]⟩] (World.laidAll_os _ _ _) (by kernel_rfl) (by kernel_rfl) (by kernel_rfl)
      (OpenSpec.preRow_of_cond 8 (x := ([.agg [.nil, .nil, .nil], .lit (.string [])], [], [])) (by kernel_rfl) (by kernel_rfl) (fun k hk => by cases hk; kernel_rfl) (by kernel_rfl) (sourceShows_met os))) ?_
  intro W base args ds gs before hval0 hW _ hcond _ hlaid hsh _
  have hk : Rows.uptoSmall H (ds ++ gs) = true := hcond _ rfl
  have hval : ∀ (j : Nat) t v, Tryz.f3.params[j]? = some t → args[j]? = some v → Value.okWide Tryz.prog W .any base t v := hval0
  have hW' : DataW.Whole enc Tryz.prog Tryz.f3.params.toList Rows.sourceShowsSpec.vars false W args.toList ds gs before := hW
  obtain ⟨p, q, hA0, hV, rfl, hfz, hnd⟩ := hW'
  have hW' : DataW.Whole enc Tryz.prog Tryz.f3.params.toList Rows.sourceShowsSpec.vars false W args.toList ds gs (p ++ q) := hW
  have hA : DataW.TrodAll enc Tryz.prog W 0 (fun _ => true) true Tryz.f3.params.toList args.toList ds p := hA0
  rw [Tryz.params3] at hA hval
  obtain ⟨v0, vs0, d0, ds0, p0, q0, hargs, rfl, rfl, h0, r0⟩ := trodAll_cons hA
  obtain ⟨v1, vs1, d1, ds1, p1, q1, rfl, rfl, rfl, h1, r1⟩ := trodAll_cons r0
  obtain ⟨rfl, rfl, rfl⟩ := trodAll_nil r1
  obtain rfl : args = #[v0, v1] := by cases args; simp_all
  obtain ⟨rfl, rfl⟩ := trodVars_none hV
  obtain ⟨dt0, rfl, hD0⟩ := openData (hval 0 26 v0 rfl rfl) h0 (small_of hk (by simp))
  obtain ⟨a1, rfl, rfl, rfl, w1⟩ := ChangeMaps.open_string Tryz.underlying9 (hval 1 9 v1 rfl rfl) h1
  clear hA0 hval0
  refine (sourceShows_walk dt0 a1 W hD0 (sMet_of hsh (by rw [MakeChecks.laidMetH_plain _ _ _ (by kernel_rfl)] at hlaid; exact hlaid))).mono fun e W' ⟨he, hg⟩ => ?_
  subst he
  exact ⟨_, rfl, law_post laidOut (by kernel_rfl) rfl rfl Tryz.underlying4 hW' hg rfl rfl rfl⟩
set_option maxRecDepth 100000 in
theorem sourceShows_f_wf : Rows.sourceShowsUptoRow.wf (OpenSpec.ofChange (Rows.OpenSpec.upto Rows.sourceShowsSpec).bare) = true := by kernel_rfl
set_option maxRecDepth 100000 in
theorem sourceShows_f_laid : laidOutB Tryz.prog = true := by kernel_rfl
set_option maxRecDepth 100000 in
theorem sourceShows_f_rowed : mapsRowed Tryz.prog = true := by kernel_rfl
set_option maxRecDepth 100000 in
theorem sourceShows_f_read : Tryz.f3.params.all (Tryz.prog.readableRec ·) = true := by kernel_rfl
set_option maxRecDepth 100000 in
theorem sourceShows_f_tie : namedTie Tryz.prog Rows.sourceShowsUptoRow.named (Rows.OpenSpec.upto Rows.sourceShowsSpec).bare.vars = true := by kernel_rfl
set_option maxRecDepth 100000 in
theorem sourceShows_f_inpl : (Rows.sourceShowsUptoRow.inPlace == Tryz.prog.inPlace 3) = true := by kernel_rfl
set_option maxRecDepth 100000 in
theorem sourceShows_f_unf : (Rows.sourceShowsUptoRow.unfollowed == Tryz.prog.unfollowed 3) = true := by kernel_rfl
set_option maxRecDepth 100000 in
theorem sourceShows_f_rec : (Rows.sourceShowsUptoRow.recurses == Tryz.prog.recurses 3) = true := by kernel_rfl
set_option maxRecDepth 100000 in
theorem sourceShows_f_nam : (Rows.sourceShowsUptoRow.named == Tryz.prog.varsNamed 3) = true := by kernel_rfl
set_option maxRecDepth 100000 in
theorem sourceShows_f_maps : (Rows.sourceShowsUptoRow.maps == (Tryz.f3.params.toList ++ (Rows.OpenSpec.upto Rows.sourceShowsSpec).bare.plain.varTypes Tryz.prog).any (Tryz.prog.mapsRec ·)) = true := by kernel_rfl
set_option maxRecDepth 100000 in
theorem sourceShows_f_ifc : (Rows.sourceShowsUptoRow.ifaces == (Tryz.f3.params.toList ++ (Rows.OpenSpec.upto Rows.sourceShowsSpec).bare.plain.varTypes Tryz.prog).any (Tryz.prog.ifacesRec ·)) = true := by kernel_rfl
set_option maxRecDepth 100000 in
theorem sourceShows_f_mapso : (Rows.sourceShowsUptoRow.mapsOut == Tryz.prog.mapsAmong Tryz.f3.resultTypes.toList) = true := by kernel_rfl
set_option maxRecDepth 100000 in
theorem sourceShows_f_loops : (Rows.sourceShowsUptoRow.loops == (Tryz.f3.params.toList ++ (Rows.OpenSpec.upto Rows.sourceShowsSpec).bare.plain.varTypes Tryz.prog).any (Tryz.prog.loopsFrom ·)) = true := by kernel_rfl
set_option maxRecDepth 100000 in
theorem sourceShows_f_wide : (Rows.sourceShowsUptoRow.wideKeys == (Tryz.f3.params.toList ++ (Rows.OpenSpec.upto Rows.sourceShowsSpec).bare.plain.varTypes Tryz.prog ++ Tryz.f3.resultTypes.toList).any (Tryz.prog.wideKeysFrom ·)) = true := by kernel_rfl
set_option maxRecDepth 100000 in
theorem sourceShows_f_vread : (Rows.OpenSpec.upto Rows.sourceShowsSpec).bare.vars.all (Tryz.prog.varReadable ·) = true := by kernel_rfl
set_option maxRecDepth 100000 in
theorem sourceShows_f_plaink : (Rows.sourceShowsUptoRow.plainKeys == Tryz.prog.plainKeys) = true := by kernel_rfl
set_option maxRecDepth 100000 in
theorem sourceShows_f_stops : Tryz.prog.stopsHeard = true := by kernel_rfl
set_option maxRecDepth 100000 in
theorem sourceShows_f_may : Tryz.prog.mayEnter = true := by kernel_rfl
set_option maxRecDepth 100000 in
theorem sourceShows_f_lift : (Rows.sourceShowsUptoRow.lifted == Tryz.prog.liftsFinal) = true := by kernel_rfl
set_option maxRecDepth 100000 in
theorem sourceShows_f_make : (Tryz.prog.make == some Rows.sourceShowsUptoRow.make) = true := by kernel_rfl
set_option maxRecDepth 100000 in
theorem sourceShows_f_veil : (Rows.sourceShowsUptoRow.veiled == (Tryz.f3.params.toList ++ (Rows.OpenSpec.upto Rows.sourceShowsSpec).bare.plain.varTypes Tryz.prog ++ Tryz.f3.resultTypes.toList).any (Tryz.prog.veiledRec ·)) = true := by kernel_rfl
set_option maxRecDepth 100000 in
theorem sourceShows_facts : joinedFacts Tryz.prog 3 Tryz.f3 (Rows.OpenSpec.upto Rows.sourceShowsSpec).bare Rows.sourceShowsUptoRow = true := by
  unfold joinedFacts
  simp only [Bool.and_eq_true]
  repeat' (refine And.intro ?_ ?_)
  all_goals (first | with_reducible exact sourceShows_f_wf | with_reducible exact sourceShows_f_laid | with_reducible exact sourceShows_f_rowed | with_reducible exact sourceShows_f_read | with_reducible exact sourceShows_f_tie | with_reducible exact sourceShows_f_inpl | with_reducible exact sourceShows_f_unf | with_reducible exact sourceShows_f_rec | with_reducible exact sourceShows_f_nam | with_reducible exact sourceShows_f_maps | with_reducible exact sourceShows_f_ifc | with_reducible exact sourceShows_f_mapso | with_reducible exact sourceShows_f_loops | with_reducible exact sourceShows_f_wide | with_reducible exact sourceShows_f_vread | with_reducible exact sourceShows_f_plaink | with_reducible exact sourceShows_f_stops | with_reducible exact sourceShows_f_may | with_reducible exact sourceShows_f_lift | with_reducible exact sourceShows_f_make | with_reducible exact sourceShows_f_veil | kernel_rfl)
theorem sourceShows_said : Rows.SourceShowsUptoSaid :=
  OpenClaim.holds_of_cond 3 Tryz.f3 rfl rfl rfl rfl rfl rfl rfl ⟨rfl, rfl, rfl, rfl, rfl⟩ rfl rfl rfl rfl rfl (by kernel_rfl) Tryz.func3 sourceShows_facts
    (of_decide_eq_true (by kernel_rfl)) (by unfold Func.isWrapper; first | (rw [if_pos (by decide +kernel)]; kernel_rfl) | (rw [if_neg (by decide +kernel)]; exact ⟨rfl, rfl⟩))
    (fun os started H enc _ F => by rw [OpenClaim.pre_eq_preRow]; exact sourceShows_lifted os started H enc F)
theorem sourceShows_plain (f : FuncId) (fn : Func) (hf : Tryz.pinned.checked.prog.funcNamed "gnomon/gnomonlaw.SourceShows" = some f) (hfn : Tryz.pinned.checked.prog.funcs[f]? = some fn) :
    true = Tryz.pinned.checked.prog.looks [] ∧ ∀ (j : Nat) t, fn.params[j]? = some t → Tryz.pinned.checked.prog.wantsStandIn t = false := by
  obtain rfl : f = 3 := Option.some.inj ((show Tryz.prog.funcNamed "gnomon/gnomonlaw.SourceShows" = some 3 by kernel_rfl).symm.trans hf) |>.symm
  obtain rfl : fn = Tryz.f3 := (Option.some.inj (Tryz.func3.symm.trans hfn)).symm
  refine ⟨by kernel_rfl, fun j t ht => ?_⟩
  rw [Tryz.params3] at ht
  have hm : t ∈ [26, 9] := by simpa using Array.mem_of_getElem? ht
  simp only [List.mem_cons, List.mem_nil_iff, or_false] at hm
  rcases hm with rfl | rfl
  · exact (show Tryz.prog.wantsStandIn 26 = false by kernel_rfl)
  · exact (show Tryz.prog.wantsStandIn 9 = false by kernel_rfl)
theorem sourceShows_holds : Rows.SourceShowsUptoCardSaid :=
  Claim7.holds_tied_plain_at .later [] _ _ _ _ sourceShows_said (fun _ h => by cases h) (by kernel_rfl) (fun _ h => by cases h) sourceShowsUpto_row_tie rfl ⟨rfl, rfl⟩ (by kernel_rfl) rfl sourceShows_plain (by kernel_rfl)
#print axioms sourceShows_holds
end Go.Proofs.YthhjgndaiimgjaaGreatDoor
