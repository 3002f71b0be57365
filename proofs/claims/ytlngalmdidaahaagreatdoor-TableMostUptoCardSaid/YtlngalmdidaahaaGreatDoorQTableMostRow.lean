/- Proved: for all data and every name, together of bulk at most 1048576, the statement TableMost returns true: a zone has no more turns than its eras, and its rules in all their years, give; and a link has those of its zone. -/
import Derived.Test.YtlngalmdidaahaaGreatDoorCards
import Derived.Test.YtlngalmdidaahaaGreatDoorTie
import Derived.JoinedCond
import Derived.Deep.DeepHandedRow
import Derived.Lay
import Derived.Test.YtlngalmdidaahaaGreatDoorMTableSameRow0
import Derived.Test.YtlngalmdidaahaaGreatDoorMTableSameRow1
import Derived.Test.YtlngalmdidaahaaGreatDoorMTableSameRow2
import Derived.Test.YtlngalmdidaahaaGreatDoorMTableSameRow3
import Derived.Test.YtlngalmdidaahaaGreatDoorMTableSameRow4
import Derived.Test.YtlngalmdidaahaaGreatDoorMTableSameRow5
import Derived.Test.YtlngalmdidaahaaGreatDoorMTableSameRow6
import Derived.Test.YtlngalmdidaahaaGreatDoorMTableSameRow7
import Derived.Test.YtlngalmdidaahaaGreatDoorMTableSameRow8
import Derived.Test.YtlngalmdidaahaaGreatDoorMTableSameRow9
import Derived.Test.YtlngalmdidaahaaGreatDoorMTableSameRow10
import Derived.Test.YtlngalmdidaahaaGreatDoorMTableSameRow11
import Derived.Test.YtlngalmdidaahaaGreatDoorMTableSameRow12
import Derived.Test.YtlngalmdidaahaaGreatDoorMTableSameRow13
import Derived.Test.YtlngalmdidaahaaGreatDoorMTableSameRow14
import Derived.Test.YtlngalmdidaahaaGreatDoorMTableSameRow15
import Derived.Test.YtlngalmdidaahaaGreatDoorMTableSameRow16
import Derived.Test.YtlngalmdidaahaaGreatDoorMTableSameRow17
import Derived.Test.YtlngalmdidaahaaGreatDoorMTableSameRow18
import Derived.Test.YtlngalmdidaahaaGreatDoorMTableSameRow19
import Derived.Test.YtlngalmdidaahaaGreatDoorMTableSameRow20
import Derived.Test.YtlngalmdidaahaaGreatDoorMTableSameRow21
import Derived.Test.YtlngalmdidaahaaGreatDoorMTableSameRow22
import Derived.Test.YtlngalmdidaahaaGreatDoorMTableSameRow23
import Derived.Test.YtlngalmdidaahaaGreatDoorMTableSameRow24
import Derived.Test.YtlngalmdidaahaaGreatDoorMTableSameRow25
import Derived.Test.YtlngalmdidaahaaGreatDoorMTableSameRow26
import Derived.Test.YtlngalmdidaahaaGreatDoorMTableSameRow27
import Derived.Test.YtlngalmdidaahaaGreatDoorMTableSameRow28
import Derived.Test.YtlngalmdidaahaaGreatDoorMTableSameRow29
import Derived.Test.YtlngalmdidaahaaGreatDoorMTableSameRow30
import Derived.Test.YtlngalmdidaahaaGreatDoorMTableSameRow31
import Derived.Test.YtlngalmdidaahaaGreatDoorMTableSameRow32
import Derived.Test.YtlngalmdidaahaaGreatDoorMTableSameRow33
import Derived.Test.YtlngalmdidaahaaGreatDoorMTableSameRow34
import Derived.Test.YtlngalmdidaahaaGreatDoorMTableSameRow35
import Derived.Test.YtlngalmdidaahaaGreatDoorMTableSameRow36
import Derived.Test.YtlngalmdidaahaaGreatDoorMTableSameRow37
import Derived.Test.YtlngalmdidaahaaGreatDoorMTableSameRow38
import Derived.Test.YtlngalmdidaahaaGreatDoorMTableSameRow39
import Derived.Test.YtlngalmdidaahaaGreatDoorMTableSameRow40
import Derived.Test.YtlngalmdidaahaaGreatDoorMTableSameRow41
import Derived.Test.YtlngalmdidaahaaGreatDoorQTableMost
set_option linter.unusedSimpArgs false
set_option linter.unusedVariables false
namespace Go.Proofs.YtlngalmdidaahaaGreatDoor
open Go.ChangeShapes Go.WideShapes Go.ChangeAt Go.RowKit Gno
theorem tableMost_met (os : Os) : laidMetH Tryz.prog Rows.tableMostUptoRow.laid ((World.laidAll Tryz.prog os Rows.tableMostUptoRow.laid).forCall (fun _ _ => 0) ⟨#[], #[.agg #[.slice none 0 0, .slice none 0 0, .slice none 0 0], .string ⟨#[]⟩], []⟩).memory := by
  rw [MakeChecks.laidMetH_plain _ _ _ (by kernel_rfl)]
  exact laidMet_laidAll _ (by kernel_rfl) (by kernel_rfl)
set_option maxRecDepth 100000 in
theorem tableMost_lifted (os : Os) (started : os.Started) (H : Type) (enc : TypeId × Value → H) (F : Stop.Interp) :
    ReturnsInHanded {} Tryz.checked os 5 .any ((Rows.OpenSpec.upto Rows.tableMostSpec).preRow enc Tryz.prog Tryz.f5 Rows.tableMostUptoRow.domain false Rows.tableMostUptoRow.laid) (((Rows.OpenSpec.upto Rows.tableMostSpec).at F).post enc Tryz.prog Tryz.f5 false true false false) := by
  refine returnsInHanded_of_row (C := Tryz.checked) (s := Rows.OpenSpec.upto Rows.tableMostSpec) own started (by kernel_rfl) Tryz.func5
    (witness_row_at (enc := enc) (C := Tryz.checked) false (World.laidAll Tryz.prog os Rows.tableMostUptoRow.laid) #[.agg #[.slice none 0 0, .slice none 0 0, .slice none 0 0], .string ⟨#[]⟩] (World.laidAll_os _ _ _) (by kernel_rfl) (by kernel_rfl) (by kernel_rfl)
      (OpenSpec.preRow_of_cond 8 (x := ([.agg [.nil, .nil, .nil], .lit (.string [])], [], [])) (by kernel_rfl) (by kernel_rfl) (fun k hk => by cases hk; kernel_rfl) (by kernel_rfl) (tableMost_met os))) ?_
  intro W base args ds gs before hval0 hW _ hcond _ _ hsh _
  have hk : Rows.uptoSmall H (ds ++ gs) = true := hcond _ rfl
  have hval : ∀ (j : Nat) t v, Tryz.f5.params[j]? = some t → args[j]? = some v → Value.okWide Tryz.prog W .any base t v := hval0
  have hW' : DataW.Whole enc Tryz.prog Tryz.f5.params.toList Rows.tableMostSpec.vars false W args.toList ds gs before := hW
  obtain ⟨p, q, hA0, hV, rfl, hfz, hnd⟩ := hW'
  have hW' : DataW.Whole enc Tryz.prog Tryz.f5.params.toList Rows.tableMostSpec.vars false W args.toList ds gs (p ++ q) := hW
  have hA : DataW.TrodAll enc Tryz.prog W 0 (fun _ => true) true Tryz.f5.params.toList args.toList ds p := hA0
  rw [Tryz.params5] at hA hval
  obtain ⟨v0, vs0, d0, ds0, p0, q0, hargs, rfl, rfl, h0, r0⟩ := trodAll_cons hA
  obtain ⟨v1, vs1, d1, ds1, p1, q1, rfl, rfl, rfl, h1, r1⟩ := trodAll_cons r0
  obtain ⟨rfl, rfl, rfl⟩ := trodAll_nil r1
  obtain rfl : args = #[v0, v1] := by cases args; simp_all
  obtain ⟨rfl, rfl⟩ := trodVars_none hV
  obtain ⟨dt0, rfl, hD0⟩ := openData (hval 0 26 v0 rfl rfl) h0 (small_of hk (by simp))
  obtain ⟨a1, rfl, rfl, rfl, w1⟩ := ChangeMaps.open_string Tryz.underlying9 (hval 1 9 v1 rfl rfl) h1
  clear hA0 hval0
  refine (tableMost_walk dt0 a1 W hD0 (maxAt_of hsh)).mono fun e W' ⟨he, hg⟩ => ?_
  subst he
  exact ⟨_, rfl, law_post laidOut (by kernel_rfl) rfl rfl Tryz.underlying4 hW' hg rfl rfl rfl⟩
theorem tableMost_said : Rows.TableMostUptoSaid :=
  OpenClaim.holds_of_cond 5 Tryz.f5 rfl rfl rfl rfl rfl rfl rfl ⟨rfl, rfl, rfl, rfl, rfl⟩ rfl rfl rfl rfl rfl (by kernel_rfl) Tryz.func5 (by kernel_rfl)
    (of_decide_eq_true (by kernel_rfl)) (by unfold Func.isWrapper; first | (rw [if_pos (by decide +kernel)]; kernel_rfl) | (rw [if_neg (by decide +kernel)]; exact ⟨rfl, rfl⟩))
    (fun os started H enc _ F => by rw [OpenClaim.pre_eq_preRow]; exact tableMost_lifted os started H enc F)
theorem tableMost_plain (f : FuncId) (fn : Func) (hf : Tryz.pinned.checked.prog.funcNamed "gnomon/gnomonlaw.TableMost" = some f) (hfn : Tryz.pinned.checked.prog.funcs[f]? = some fn) :
    true = Tryz.pinned.checked.prog.looks [] ∧ ∀ (j : Nat) t, fn.params[j]? = some t → Tryz.pinned.checked.prog.wantsStandIn t = false := by
  obtain rfl : f = 5 := Option.some.inj ((show Tryz.prog.funcNamed "gnomon/gnomonlaw.TableMost" = some 5 by kernel_rfl).symm.trans hf) |>.symm
  obtain rfl : fn = Tryz.f5 := (Option.some.inj (Tryz.func5.symm.trans hfn)).symm
  refine ⟨by kernel_rfl, fun j t ht => ?_⟩
  rw [Tryz.params5] at ht
  have hm : t ∈ [26, 9] := by simpa using Array.mem_of_getElem? ht
  simp only [List.mem_cons, List.mem_nil_iff, or_false, or_self] at hm
  rcases hm with rfl | rfl
  · exact (show Tryz.prog.wantsStandIn 26 = false by kernel_rfl)
  · exact (show Tryz.prog.wantsStandIn 9 = false by kernel_rfl)
theorem tableMost_holds : Rows.TableMostUptoCardSaid :=
  Claim7.holds_tied_plain_at .later [] _ _ _ _ tableMost_said (fun _ h => by cases h) (by kernel_rfl) (fun _ h => by cases h) tableMostUpto_row_tie rfl ⟨rfl, rfl⟩ (by kernel_rfl) rfl tableMost_plain (by kernel_rfl)
#print axioms tableMost_holds
end Go.Proofs.YtlngalmdidaahaaGreatDoor
