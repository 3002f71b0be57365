/- Proved: for all data, every name and every time, together of bulk at most 1048576, the statement TableSame returns true: Look of Compile tells what holds, whenever it is asked. -/
import Derived.Test.YtlngalmdidaahaaGreatDoorCards
import Derived.Test.YtlngalmdidaahaaGreatDoorTie
import Derived.JoinedCond
import Derived.Deep.DeepHandedRow
import Derived.Lay
import Derived.Test.YtlngalmdidaahaaGreatDoorMTableSameRow40
import Derived.Test.YtlngalmdidaahaaGreatDoorMTableSameRow20
import Derived.Test.YtlngalmdidaahaaGreatDoorMTableSameRow24
set_option linter.unusedSimpArgs false
set_option linter.unusedVariables false
/-! Proved: for all data, every name and every time, together of bulk at most 1048576, the statement TableSame returns true: Look of Compile tells what holds, whenever it is asked. -/
section
namespace Go.Proofs.YtlngalmdidaahaaGreatDoor
open Go.ChangeShapes Go.WideShapes Go.ChangeAt Go.RowKit Gno
theorem tableSame_met (os : Os) : laidMetH Tryz.prog Rows.tableSameUptoRow.laid ((World.laidAll Tryz.prog os Rows.tableSameUptoRow.laid).forCall (fun _ _ => 0) ⟨#[], #[.agg #[.slice none 0 0, .slice none 0 0, .slice none 0 0], .string ⟨#[]⟩, .int .i64 0], []⟩).memory := by
  rw [MakeChecks.laidMetH_plain _ _ _ (by kernel_rfl)]
  exact laidMet_laidAll _ (by kernel_rfl) (by kernel_rfl)
set_option maxRecDepth 100000 in
theorem tableSame_lifted (os : Os) (started : os.Started) (H : Type) (enc : TypeId × Value → H) (F : Stop.Interp) :
    ReturnsInHanded {} Tryz.checked os 6 .any ((Rows.OpenSpec.upto Rows.tableSameSpec).preRow enc Tryz.prog Tryz.f6 Rows.tableSameUptoRow.domain false Rows.tableSameUptoRow.laid) (((Rows.OpenSpec.upto Rows.tableSameSpec).at F).post enc Tryz.prog Tryz.f6 false true false false) := by
  refine returnsInHanded_of_row (C := Tryz.checked) (s := Rows.OpenSpec.upto Rows.tableSameSpec) own started (by kernel_rfl) Tryz.func6
    (witness_row_at (enc := enc) (C := Tryz.checked) false (World.laidAll Tryz.prog os Rows.tableSameUptoRow.laid) #[.agg #[.slice none 0 0, .slice none 0 0, .slice none 0 0], .string ⟨#[]⟩, .int .i64 0] (World.laidAll_os _ _ _) (by kernel_rfl) (by kernel_rfl) (by kernel_rfl)
      (OpenSpec.preRow_of_cond 8 (x := ([.agg [.nil, .nil, .nil], .lit (.string []), .lit (.int .i64 0)], [], [])) (by kernel_rfl) (by kernel_rfl) (fun k hk => by cases hk; kernel_rfl) (by kernel_rfl) (tableSame_met os))) ?_
  intro W base args ds gs before hval0 hW _ hcond _ _ hsh _
  have hk : Rows.uptoSmall H (ds ++ gs) = true := hcond _ rfl
  have hval : ∀ (j : Nat) t v, Tryz.f6.params[j]? = some t → args[j]? = some v → Value.okWide Tryz.prog W .any base t v := hval0
  have hW' : DataW.Whole enc Tryz.prog Tryz.f6.params.toList Rows.tableSameSpec.vars false W args.toList ds gs before := hW
  obtain ⟨p, q, hA0, hV, rfl, hfz, hnd⟩ := hW'
  have hW' : DataW.Whole enc Tryz.prog Tryz.f6.params.toList Rows.tableSameSpec.vars false W args.toList ds gs (p ++ q) := hW
  have hA : DataW.TrodAll enc Tryz.prog W 0 (fun _ => true) true Tryz.f6.params.toList args.toList ds p := hA0
  rw [Tryz.params6] at hA hval
  obtain ⟨v0, vs0, d0, ds0, p0, q0, hargs, rfl, rfl, h0, r0⟩ := trodAll_cons hA
  obtain ⟨v1, vs1, d1, ds1, p1, q1, rfl, rfl, rfl, h1, r1⟩ := trodAll_cons r0
  obtain ⟨v2, vs2, d2, ds2, p2, q2, rfl, rfl, rfl, h2, r2⟩ := trodAll_cons r1
  obtain ⟨rfl, rfl, rfl⟩ := trodAll_nil r2
  obtain rfl : args = #[v0, v1, v2] := by cases args; simp_all
  obtain ⟨rfl, rfl⟩ := trodVars_none hV
  obtain ⟨dt0, rfl, hD0⟩ := openData (hval 0 26 v0 rfl rfl) h0 (small_of hk (by simp))
  obtain ⟨a1, rfl, rfl, rfl, w1⟩ := ChangeMaps.open_string Tryz.underlying9 (hval 1 9 v1 rfl rfl) h1
  obtain ⟨a2, rfl, rfl, rfl, w2⟩ := open_int Tryz.underlying3 (hval 2 3 v2 rfl rfl) h2
  clear hA0 hval0
  refine (tableSame_walk dt0 a1 a2 W hD0 (maxAt_of hsh)).mono fun e W' ⟨he, hg⟩ => ?_
  subst he
  exact ⟨_, rfl, law_post laidOut (by kernel_rfl) rfl rfl Tryz.underlying4 hW' hg rfl rfl rfl⟩
theorem tableSame_said : Rows.TableSameUptoSaid :=
  OpenClaim.holds_of_cond 6 Tryz.f6 rfl rfl rfl rfl rfl rfl rfl ⟨rfl, rfl, rfl, rfl, rfl⟩ rfl rfl rfl rfl rfl (by kernel_rfl) Tryz.func6 (by kernel_rfl)
    (of_decide_eq_true (by kernel_rfl)) (by unfold Func.isWrapper; first | (rw [if_pos (by decide +kernel)]; kernel_rfl) | (rw [if_neg (by decide +kernel)]; exact ⟨rfl, rfl⟩))
    (fun os started H enc _ F => by rw [OpenClaim.pre_eq_preRow]; exact tableSame_lifted os started H enc F)
theorem tableSame_plain (f : FuncId) (fn : Func) (hf : Tryz.pinned.checked.prog.funcNamed "gnomon/gnomonlaw.TableSame" = some f) (hfn : Tryz.pinned.checked.prog.funcs[f]? = some fn) :
    true = Tryz.pinned.checked.prog.looks [] ∧ ∀ (j : Nat) t, fn.params[j]? = some t → Tryz.pinned.checked.prog.wantsStandIn t = false := by
  obtain rfl : f = 6 := Option.some.inj ((show Tryz.prog.funcNamed "gnomon/gnomonlaw.TableSame" = some 6 by kernel_rfl).symm.trans hf) |>.symm
  obtain rfl : fn = Tryz.f6 := (Option.some.inj (Tryz.func6.symm.trans hfn)).symm
  refine ⟨by kernel_rfl, fun j t ht => ?_⟩
  rw [Tryz.params6] at ht
  have hm : t ∈ [26, 9, 3] := by simpa using Array.mem_of_getElem? ht
  simp only [List.mem_cons, List.mem_nil_iff, or_false, or_self] at hm
  rcases hm with rfl | rfl | rfl
  · exact (show Tryz.prog.wantsStandIn 26 = false by kernel_rfl)
  · exact (show Tryz.prog.wantsStandIn 9 = false by kernel_rfl)
  · exact (show Tryz.prog.wantsStandIn 3 = false by kernel_rfl)
theorem tableSame_holds : Rows.TableSameUptoCardSaid :=
  Claim7.holds_tied_plain_at .later [] _ _ _ _ tableSame_said (fun _ h => by cases h) (by kernel_rfl) (fun _ h => by cases h) tableSameUpto_row_tie rfl ⟨rfl, rfl⟩ (by kernel_rfl) rfl tableSame_plain (by kernel_rfl)
#print axioms tableSame_holds
end Go.Proofs.YtlngalmdidaahaaGreatDoor
end
