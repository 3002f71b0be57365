/- Proved: for all data, every name, every table and every time, together of bulk at most 1048576, the statement TableTells returns true: Compile and Look answer what the reference's tell, errors too. -/
import Derived.Test.YtlngalmdidaahaaGreatDoorCards
import Derived.Test.YtlngalmdidaahaaGreatDoorTie
import Derived.JoinedCond
import Derived.Deep.DeepHandedRow
import Derived.Lay
import Derived.Test.YtlngalmdidaahaaGreatDoorMUMostP0
import Derived.Test.YtlngalmdidaahaaGreatDoorMUMostP1
import Derived.Test.YtlngalmdidaahaaGreatDoorMUMostP2
import Derived.Test.YtlngalmdidaahaaGreatDoorMUMostP3
import Derived.Test.YtlngalmdidaahaaGreatDoorMUMostP4
import Derived.Test.YtlngalmdidaahaaGreatDoorMUMostP5
import Derived.Test.YtlngalmdidaahaaGreatDoorMUMostP6
import Derived.Test.YtlngalmdidaahaaGreatDoorMUMostP7
import Derived.Test.YtlngalmdidaahaaGreatDoorMUMostP8
import Derived.Test.YtlngalmdidaahaaGreatDoorMUMostP9
import Derived.Test.YtlngalmdidaahaaGreatDoorMUMostP10
import Derived.Test.YtlngalmdidaahaaGreatDoorMUMostP11
import Derived.Test.YtlngalmdidaahaaGreatDoorMUMostP12
import Derived.Test.YtlngalmdidaahaaGreatDoorMUMostP13
import Derived.Test.YtlngalmdidaahaaGreatDoorMUMostP14
import Derived.Test.YtlngalmdidaahaaGreatDoorMUMostP15
import Derived.Test.YtlngalmdidaahaaGreatDoorMUMostP16
import Derived.Test.YtlngalmdidaahaaGreatDoorMUMostP17
import Derived.Test.YtlngalmdidaahaaGreatDoorMUMostP18
import Derived.Test.YtlngalmdidaahaaGreatDoorMUMostP19
import Derived.Test.YtlngalmdidaahaaGreatDoorMUMostP20
import Derived.Test.YtlngalmdidaahaaGreatDoorMUMostP21
import Derived.Test.YtlngalmdidaahaaGreatDoorMUMostP22
import Derived.Test.YtlngalmdidaahaaGreatDoorMUMostP23
import Derived.Test.YtlngalmdidaahaaGreatDoorMUMostP24
import Derived.Test.YtlngalmdidaahaaGreatDoorMUMostP25
import Derived.Test.YtlngalmdidaahaaGreatDoorMUMostP26
import Derived.Test.YtlngalmdidaahaaGreatDoorMUMostP27
import Derived.Test.YtlngalmdidaahaaGreatDoorMUMostP28
import Derived.Test.YtlngalmdidaahaaGreatDoorMUMostP29
import Derived.Test.YtlngalmdidaahaaGreatDoorMUMostP30
import Derived.Test.YtlngalmdidaahaaGreatDoorMUMostP31
import Derived.Test.YtlngalmdidaahaaGreatDoorMUMostP32
import Derived.Test.YtlngalmdidaahaaGreatDoorMUMostP33
import Derived.Test.YtlngalmdidaahaaGreatDoorMUMostP34
import Derived.Test.YtlngalmdidaahaaGreatDoorMUMostP35
import Derived.Test.YtlngalmdidaahaaGreatDoorMUMostP36
import Derived.Test.YtlngalmdidaahaaGreatDoorMUMostP37
import Derived.Test.YtlngalmdidaahaaGreatDoorMUMostP38
import Derived.Test.YtlngalmdidaahaaGreatDoorMUMostP39
import Derived.Test.YtlngalmdidaahaaGreatDoorMUMostP40
import Derived.Test.YtlngalmdidaahaaGreatDoorMUMostP41
import Derived.Test.YtlngalmdidaahaaGreatDoorMUMostP42
import Derived.Test.YtlngalmdidaahaaGreatDoorMUMostP43
import Derived.Test.YtlngalmdidaahaaGreatDoorMUMostP44
import Derived.Test.YtlngalmdidaahaaGreatDoorMUMostP45
import Derived.Test.YtlngalmdidaahaaGreatDoorMUMostP46
import Derived.Test.YtlngalmdidaahaaGreatDoorQTimesT
set_option linter.unusedSimpArgs false
set_option linter.unusedVariables false
set_option linter.unusedVariables false
set_option linter.unusedSimpArgs false
namespace Go.Proofs.YtlngalmdidaahaaGreatDoor
open Go.ChangeShapes Go.WideShapes Go.ChangeAt Go.RowKit Gno
theorem tableTells_met (os : Os) : laidMetH Tryz.prog Rows.tableTellsUptoRow.laid ((World.laidAll Tryz.prog os Rows.tableTellsUptoRow.laid).forCall (fun _ _ => 0) ⟨#[], #[.agg #[.slice none 0 0, .slice none 0 0, .slice none 0 0], .string ⟨#[]⟩, .slice none 0 0, .int .i64 0], []⟩).memory := by
  rw [MakeChecks.laidMetH_plain _ _ _ (by kernel_rfl)]
  exact laidMet_laidAll _ (by kernel_rfl) (by kernel_rfl)
set_option maxRecDepth 100000 in
theorem tableTells_lifted (os : Os) (started : os.Started) (H : Type) (enc : TypeId × Value → H) (F : Stop.Interp) :
    ReturnsInHanded {} Tryz.checked os 4 .any ((Rows.OpenSpec.upto Rows.tableTellsSpec).preRow enc Tryz.prog Tryz.f4 Rows.tableTellsUptoRow.domain false Rows.tableTellsUptoRow.laid) (((Rows.OpenSpec.upto Rows.tableTellsSpec).at F).post enc Tryz.prog Tryz.f4 false true false false) := by
  refine returnsInHanded_of_row (C := Tryz.checked) (s := Rows.OpenSpec.upto Rows.tableTellsSpec) own started (by kernel_rfl) Tryz.func4
    (witness_row_at (enc := enc) (C := Tryz.checked) false (World.laidAll Tryz.prog os Rows.tableTellsUptoRow.laid) #[.agg #[.slice none 0 0, .slice none 0 0, .slice none 0 0], .string ⟨#[]⟩, .slice none 0 0, .int .i64 0] (World.laidAll_os _ _ _) (by kernel_rfl) (by kernel_rfl) (by kernel_rfl)
      (OpenSpec.preRow_of_cond 8 (x := ([.agg [.nil, .nil, .nil], .lit (.string []), .nil, .lit (.int .i64 0)], [], [])) (by kernel_rfl) (by kernel_rfl) (fun k hk => by cases hk; kernel_rfl) (by kernel_rfl) (tableTells_met os))) ?_
  intro W base args ds gs before hval0 hW _ hcond _ _ hsh _
  have hk : Rows.uptoSmall H (ds ++ gs) = true := hcond _ rfl
  have hval : ∀ (j : Nat) t v, Tryz.f4.params[j]? = some t → args[j]? = some v → Value.okWide Tryz.prog W .any base t v := hval0
  have hW' : DataW.Whole enc Tryz.prog Tryz.f4.params.toList Rows.tableTellsSpec.vars false W args.toList ds gs before := hW
  obtain ⟨p, q, hA0, hV, rfl, hfz, hnd⟩ := hW'
  have hW' : DataW.Whole enc Tryz.prog Tryz.f4.params.toList Rows.tableTellsSpec.vars false W args.toList ds gs (p ++ q) := hW
  have hA : DataW.TrodAll enc Tryz.prog W 0 (fun _ => true) true Tryz.f4.params.toList args.toList ds p := hA0
  rw [Tryz.params4] at hA hval
  obtain ⟨v0, vs0, d0, ds0, p0, q0, hargs, rfl, rfl, h0, r0⟩ := trodAll_cons hA
  obtain ⟨v1, vs1, d1, ds1, p1, q1, rfl, rfl, rfl, h1, r1⟩ := trodAll_cons r0
  obtain ⟨v2, vs2, d2, ds2, p2, q2, rfl, rfl, rfl, h2, r2⟩ := trodAll_cons r1
  obtain ⟨v3, vs3, d3, ds3, p3, q3, rfl, rfl, rfl, h3, r3⟩ := trodAll_cons r2
  obtain ⟨rfl, rfl, rfl⟩ := trodAll_nil r3
  obtain rfl : args = #[v0, v1, v2, v3] := by cases args; simp_all
  obtain ⟨rfl, rfl⟩ := trodVars_none hV
  obtain ⟨dt0, rfl, hD0⟩ := openData (hval 0 26 v0 rfl rfl) h0 (small_of hk (by simp))
  obtain ⟨a1, rfl, rfl, rfl, w1⟩ := ChangeMaps.open_string Tryz.underlying9 (hval 1 9 v1 rfl rfl) h1
  obtain ⟨A2, n2, cap2, l2, rfl, hn2, hT2⟩ := openTurns (hval 2 34 v2 rfl rfl) h2 (small_of hk (by simp))
  obtain ⟨a3, rfl, rfl, rfl, w3⟩ := open_int Tryz.underlying3 (hval 3 3 v3 rfl rfl) h3
  clear hA0 hval0
  refine (tableTells_walk dt0 a1 A2 n2 cap2 l2 a3 W hD0 (maxAt_of hsh) hT2 (by omega)).mono fun e W' ⟨he, hg⟩ => ?_
  subst he
  exact ⟨_, rfl, law_post laidOut (by kernel_rfl) rfl rfl Tryz.underlying4 hW' hg rfl rfl rfl⟩
theorem tableTells_said : Rows.TableTellsUptoSaid :=
  OpenClaim.holds_of_cond 4 Tryz.f4 rfl rfl rfl rfl rfl rfl rfl ⟨rfl, rfl, rfl, rfl, rfl⟩ rfl rfl rfl rfl rfl (by kernel_rfl) Tryz.func4 (by kernel_rfl)
    (of_decide_eq_true (by kernel_rfl)) (by unfold Func.isWrapper; first | (rw [if_pos (by decide +kernel)]; kernel_rfl) | (rw [if_neg (by decide +kernel)]; exact ⟨rfl, rfl⟩))
    (fun os started H enc _ F => by rw [OpenClaim.pre_eq_preRow]; exact tableTells_lifted os started H enc F)
theorem tableTells_plain (f : FuncId) (fn : Func) (hf : Tryz.pinned.checked.prog.funcNamed "gnomon/gnomonlaw.TableTells" = some f) (hfn : Tryz.pinned.checked.prog.funcs[f]? = some fn) :
    true = Tryz.pinned.checked.prog.looks [] ∧ ∀ (j : Nat) t, fn.params[j]? = some t → Tryz.pinned.checked.prog.wantsStandIn t = false := by
  obtain rfl : f = 4 := Option.some.inj ((show Tryz.prog.funcNamed "gnomon/gnomonlaw.TableTells" = some 4 by kernel_rfl).symm.trans hf) |>.symm
  obtain rfl : fn = Tryz.f4 := (Option.some.inj (Tryz.func4.symm.trans hfn)).symm
  refine ⟨by kernel_rfl, fun j t ht => ?_⟩
  rw [Tryz.params4] at ht
  have hm : t ∈ [26, 9, 34, 3] := by simpa using Array.mem_of_getElem? ht
  simp only [List.mem_cons, List.mem_nil_iff, or_false, or_self] at hm
  rcases hm with rfl | rfl | rfl | rfl
  · exact (show Tryz.prog.wantsStandIn 26 = false by kernel_rfl)
  · exact (show Tryz.prog.wantsStandIn 9 = false by kernel_rfl)
  · exact (show Tryz.prog.wantsStandIn 34 = false by kernel_rfl)
  · exact (show Tryz.prog.wantsStandIn 3 = false by kernel_rfl)
theorem tableTells_holds : Rows.TableTellsUptoCardSaid :=
  Claim7.holds_tied_plain_at .later [] _ _ _ _ tableTells_said (fun _ h => by cases h) (by kernel_rfl) (fun _ h => by cases h) tableTellsUpto_row_tie rfl ⟨rfl, rfl⟩ (by kernel_rfl) rfl tableTells_plain (by kernel_rfl)
#print axioms tableTells_holds
end Go.Proofs.YtlngalmdidaahaaGreatDoor
