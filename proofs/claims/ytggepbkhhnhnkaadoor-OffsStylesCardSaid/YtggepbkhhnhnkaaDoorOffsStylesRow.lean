/- Proved: for every number the statement OffsStyles returns true: the four styles of one offset hang together as the document says; no condition on the input. -/
import Derived.Test.YtggepbkhhnhnkaaDoorOfB
import Derived.Test.YtggepbkhhnhnkaaDoorOfM
import Derived.Test.YtggepbkhhnhnkaaDoorCards
import Derived.Test.YtggepbkhhnhnkaaDoorTie
import Derived.JoinedCond
import Derived.Deep.DeepHandedRow
import Derived.Lay
set_option linter.unusedVariables false
set_option linter.unusedSimpArgs false
namespace Go.Proofs.YtggepbkhhnhnkaaDoor
open Go.ChangeShapes Go.WideShapes Go.ChangeAt Go.RowKit Gno
theorem offsStyles_met (os : Os) : laidMetH Tryd.prog Rows.offsStylesRow.laid ((World.laidAll Tryd.prog os Rows.offsStylesRow.laid).forCall (fun _ _ => 0) ⟨#[], #[.int .i64 0], []⟩).memory := by
  rw [MakeChecks.laidMetH_plain _ _ _ (by kernel_rfl)]
  exact laidMet_laidAll _ (by kernel_rfl) (by kernel_rfl)
set_option maxRecDepth 100000 in
theorem offsStyles_lifted (os : Os) (started : os.Started) (H : Type) (enc : TypeId × Value → H) (F : Stop.Interp) :
    ReturnsInHanded {} Tryd.checked os 5 .any ((OpenSpec.ofChange Rows.offsStylesSpec).preRow enc Tryd.prog Tryd.f5 Rows.offsStylesRow.domain false Rows.offsStylesRow.laid) (((OpenSpec.ofChange Rows.offsStylesSpec).at F).post enc Tryd.prog Tryd.f5 false true false false) := by
  refine returnsInHanded_of_row (C := Tryd.checked) (s := OpenSpec.ofChange Rows.offsStylesSpec) own started (by kernel_rfl) Tryd.func5
    (witness_row_at (enc := enc) (C := Tryd.checked) false (World.laidAll Tryd.prog os Rows.offsStylesRow.laid) #[.int .i64 0] (World.laidAll_os _ _ _) (by kernel_rfl) (by kernel_rfl) (by kernel_rfl)
      (OpenSpec.preRow_of_cond 8 (x := ([.lit (.int .i64 0)], [], [])) (by kernel_rfl) (by kernel_rfl) (fun k hk => by cases hk) (by kernel_rfl) (offsStyles_met os))) ?_
  intro W base args ds gs before hval0 hW _ _ _ hlaid hsh _
  have hval : ∀ (j : Nat) t v, Tryd.f5.params[j]? = some t → args[j]? = some v → Value.okWide Tryd.prog W .any base t v := hval0
  have hW' : DataW.Whole enc Tryd.prog Tryd.f5.params.toList Rows.offsStylesSpec.vars false W args.toList ds gs before := hW
  obtain ⟨p, q, hA0, hV, rfl, hfz, hnd⟩ := hW'
  have hW' : DataW.Whole enc Tryd.prog Tryd.f5.params.toList Rows.offsStylesSpec.vars false W args.toList ds gs (p ++ q) := hW
  have hA : DataW.TrodAll enc Tryd.prog W 0 (fun _ => true) true Tryd.f5.params.toList args.toList ds p := hA0
  rw [Tryd.params5] at hA hval
  obtain ⟨v0, vs0, d0, ds0, p0, q0, hargs, rfl, rfl, h0, r0⟩ := trodAll_cons hA
  obtain ⟨rfl, rfl, rfl⟩ := trodAll_nil r0
  obtain rfl : args = #[v0] := by cases args; simp_all
  obtain ⟨rfl, rfl⟩ := trodVars_none hV
  obtain ⟨a0, rfl, rfl, rfl, w0⟩ := open_int Tryd.underlying3 (hval 0 3 v0 rfl rfl) h0
  clear hA0 hval0
  refine (offsStyles_walk a0 w0 W (oMet_of hsh (laidMet_tail (laidMet_tail (laidMet_tail (laidMet_tail (by rw [MakeChecks.laidMetH_plain _ _ _ (by kernel_rfl)] at hlaid; exact hlaid))))))).mono fun e W' ⟨he, hg⟩ => ?_
  subst he
  exact ⟨_, rfl, law_post laidOut (by kernel_rfl) rfl rfl Tryd.underlying4 hW' hg rfl rfl rfl⟩
theorem offsStyles_said : Rows.OffsStylesSaid :=
  OpenClaim.holds_of_cond 5 Tryd.f5 rfl rfl rfl rfl rfl rfl rfl ⟨rfl, rfl, rfl, rfl, rfl⟩ rfl rfl rfl rfl rfl (by kernel_rfl) Tryd.func5 (by kernel_rfl)
    (of_decide_eq_true (by kernel_rfl)) (by unfold Func.isWrapper; first | (rw [if_pos (by decide +kernel)]; kernel_rfl) | (rw [if_neg (by decide +kernel)]; exact ⟨rfl, rfl⟩))
    (fun os started H enc _ F => by rw [OpenClaim.pre_eq_preRow]; exact offsStyles_lifted os started H enc F)
theorem offsStyles_plain (f : FuncId) (fn : Func) (hf : Tryd.pinned.checked.prog.funcNamed "gnomon/gnomonlaw.OffsStyles" = some f) (hfn : Tryd.pinned.checked.prog.funcs[f]? = some fn) :
    true = Tryd.pinned.checked.prog.looks [] ∧ ∀ (j : Nat) t, fn.params[j]? = some t → Tryd.pinned.checked.prog.wantsStandIn t = false := by
  obtain rfl : f = 5 := Option.some.inj ((show Tryd.prog.funcNamed "gnomon/gnomonlaw.OffsStyles" = some 5 by kernel_rfl).symm.trans hf) |>.symm
  obtain rfl : fn = Tryd.f5 := (Option.some.inj (Tryd.func5.symm.trans hfn)).symm
  refine ⟨by kernel_rfl, fun j t ht => ?_⟩
  rw [Tryd.params5] at ht
  have hm : t ∈ [3] := by simpa using Array.mem_of_getElem? ht
  simp only [List.mem_cons, List.mem_nil_iff, or_false] at hm
  rcases hm with rfl
  · exact (show Tryd.prog.wantsStandIn 3 = false by kernel_rfl)
theorem offsStyles_holds : Rows.OffsStylesCardSaid :=
  Claim7.holds_tied_plain_at .later [] _ _ _ _ offsStyles_said (fun _ h => by cases h) (by kernel_rfl) (fun _ h => by cases h) offsStyles_row_tie rfl ⟨rfl, rfl⟩ (by kernel_rfl) rfl offsStyles_plain (by kernel_rfl)
#print axioms offsStyles_holds
end Go.Proofs.YtggepbkhhnhnkaaDoor
