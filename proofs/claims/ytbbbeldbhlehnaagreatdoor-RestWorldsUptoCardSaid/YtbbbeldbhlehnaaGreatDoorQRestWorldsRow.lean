/- Proved: for all worlds, every locale, time and pattern and every list of words, together of bulk at most 1048576, the statement RestWorlds returns true: what came, and was changed, changes nothing that was handed in, nor what comes next. -/
import Derived.Test.YtbbbeldbhlehnaaGreatDoorQRestWorldsFacts
import Derived.Test.YtbbbeldbhlehnaaGreatDoorCards
import Derived.Test.YtbbbeldbhlehnaaGreatDoorTie
import Derived.JoinedCond
import Derived.Deep.DeepHandedRow
import Derived.Lay
import Derived.Test.YtbbbeldbhlehnaaGreatDoorQRwW
import Derived.Test.YtbbbeldbhlehnaaGreatDoorMUTrB233
import Derived.Test.YtbbbeldbhlehnaaGreatDoorMUTrB29
import Derived.Test.YtbbbeldbhlehnaaGreatDoorMUTrB213
set_option linter.unusedSimpArgs false
set_option linter.unusedVariables false
namespace Go.Proofs.YtbbbeldbhlehnaaGreatDoor
open Go.ChangeShapes Go.WideShapes Go.ChangeAt Go.RowKit Gno
theorem restWorlds_met (os : Os) : laidMetH Tryz.prog Rows.restWorldsUptoRow.laid ((World.laidAll Tryz.prog os Rows.restWorldsUptoRow.laid).forCall (fun _ _ => 0) ⟨#[], #[.agg #[.slice none 0 0, .slice none 0 0, .slice none 0 0, .slice none 0 0, .slice none 0 0], .string ⟨#[]⟩, .int .i64 0, .int .i64 0, .slice none 0 0], []⟩).memory := by
 rw [MakeChecks.laidMetH_plain _ _ _ (by kernel_rfl)]
 exact laidMet_laidAll _ (by kernel_rfl) (by kernel_rfl)
set_option maxRecDepth 100000 in
theorem restWorlds_lifted (os : Os) (started : os.Started) (H : Type) (enc : TypeId × Value → H) (F : Stop.Interp) :
 ReturnsInHanded {} Tryz.checked os 10 .any ((Rows.OpenSpec.upto Rows.restWorldsSpec).preRow enc Tryz.prog Tryz.f10 Rows.restWorldsUptoRow.domain false Rows.restWorldsUptoRow.laid) (((Rows.OpenSpec.upto Rows.restWorldsSpec).at F).post enc Tryz.prog Tryz.f10 false true false false) := by
 refine returnsInHanded_of_row (C := Tryz.checked) (s := Rows.OpenSpec.upto Rows.restWorldsSpec) own started (by kernel_rfl) Tryz.func10
  (witness_row_at (enc := enc) (C := Tryz.checked) false (World.laidAll Tryz.prog os Rows.restWorldsUptoRow.laid) #[.agg #[.slice none 0 0, .slice none 0 0, .slice none 0 0, .slice none 0 0, .slice none 0 0], .string ⟨#[]⟩, .int .i64 0, .int .i64 0, .slice none 0 0] (World.laidAll_os _ _ _) (by kernel_rfl) (by kernel_rfl) (by kernel_rfl)
   (OpenSpec.preRow_of_cond 8 (x := ([.agg [.agg [.nil, .nil, .nil], .nil, .nil], .lit (.string []), .lit (.int .i64 0), .lit (.int .i64 0), .nil], [], [])) (by kernel_rfl) (by kernel_rfl) (fun k hk => by cases hk; kernel_rfl) (by kernel_rfl) (restWorlds_met os))) ?_
 intro W base args ds gs before hval0 hW _ hcond _ hlaid hsh _
 have hk : Rows.uptoSmall H (ds ++ gs) = true := hcond _ rfl
 have hval : ∀ (j : Nat) t v, Tryz.f10.params[j]? = some t → args[j]? = some v → Value.okWide Tryz.prog W .any base t v := hval0
 have hW' : DataW.Whole enc Tryz.prog Tryz.f10.params.toList Rows.restWorldsSpec.vars false W args.toList ds gs before := hW
 obtain ⟨p, q, hA0, hV, rfl, hfz, hnd⟩ := hW'
 have hW' : DataW.Whole enc Tryz.prog Tryz.f10.params.toList Rows.restWorldsSpec.vars false W args.toList ds gs (p ++ q) := hW
 have hA : DataW.TrodAll enc Tryz.prog W 0 (fun _ => true) true Tryz.f10.params.toList args.toList ds p := hA0
 rw [Tryz.params10] at hA hval
 obtain ⟨v0, vs0, d0, ds0, p0, q0, hargs, rfl, rfl, h0, r0⟩ := trodAll_cons hA
 obtain ⟨v1, vs1, d1, ds1, p1, q1, rfl, rfl, rfl, h1, r1⟩ := trodAll_cons r0
 obtain ⟨v2, vs2, d2, ds2, p2, q2, rfl, rfl, rfl, h2, r2⟩ := trodAll_cons r1
 obtain ⟨v3, vs3, d3, ds3, p3, q3, rfl, rfl, rfl, h3, r3⟩ := trodAll_cons r2
 obtain ⟨v4, vs4, d4, ds4, p4, q4, rfl, rfl, rfl, h4, r4⟩ := trodAll_cons r3
 obtain ⟨rfl, rfl, rfl⟩ := trodAll_nil r4
 obtain rfl : args = #[v0, v1, v2, v3, v4] := by cases args; simp_all
 obtain ⟨rfl, rfl⟩ := trodVars_none hV
 obtain ⟨xw0, rfl, hWd0, hnc0, hbc0⟩ := openWorld (hval 0 30 v0 rfl rfl) h0 (small_of hk (by simp))
 obtain ⟨a1, rfl, rfl, rfl, w1⟩ := ChangeMaps.open_string Tryz.underlying9 (hval 1 9 v1 rfl rfl) h1
 obtain ⟨a2, rfl, rfl, rfl, w2⟩ := open_int Tryz.underlying3 (hval 2 3 v2 rfl rfl) h2
 obtain ⟨a3, rfl, rfl, rfl, w3⟩ := open_int Tryz.underlying3 (hval 3 3 v3 rfl rfl) h3
 obtain ⟨A4, n4, cap4, l4, rfl, hS4, hZ4⟩ := openStrs (hval 4 56 v4 rfl rfl) h4
 clear hA0 hval0
 refine (restWorlds_walk xw0 a1 a2 a3 A4 n4 cap4 l4 W hWd0 (maxAt_of hsh) w3 hS4 hZ4).mono fun e W' ⟨he, hg⟩ => ?_
 subst he
 exact ⟨_, rfl, law_post laidOut (by kernel_rfl) rfl rfl Tryz.underlying4 hW' hg rfl rfl rfl⟩
theorem restWorlds_said : Rows.RestWorldsUptoSaid :=
 OpenClaim.holds_of_cond 10 Tryz.f10 rfl rfl rfl rfl rfl rfl rfl ⟨rfl, rfl, rfl, rfl, rfl⟩ rfl rfl rfl rfl rfl (by kernel_rfl) Tryz.func10 restWorlds_facts
  (of_decide_eq_true (by kernel_rfl)) (by unfold Func.isWrapper; first | (rw [if_pos (by decide +kernel)]; kernel_rfl) | (rw [if_neg (by decide +kernel)]; exact ⟨rfl, rfl⟩))
  (fun os started H enc _ F => by rw [OpenClaim.pre_eq_preRow]; exact restWorlds_lifted os started H enc F)
theorem restWorlds_plain (f : FuncId) (fn : Func) (hf : Tryz.pinned.checked.prog.funcNamed "gnomon/gnomonlaw.RestWorlds" = some f) (hfn : Tryz.pinned.checked.prog.funcs[f]? = some fn) :
 true = Tryz.pinned.checked.prog.looks [] ∧ ∀ (j : Nat) t, fn.params[j]? = some t → Tryz.pinned.checked.prog.wantsStandIn t = false := by
 obtain rfl : f = 10 := Option.some.inj ((show Tryz.prog.funcNamed "gnomon/gnomonlaw.RestWorlds" = some 10 by kernel_rfl).symm.trans hf) |>.symm
 obtain rfl : fn = Tryz.f10 := (Option.some.inj (Tryz.func10.symm.trans hfn)).symm
 refine ⟨by kernel_rfl, fun j t ht => ?_⟩
 rw [Tryz.params10] at ht
 have hm : t ∈ [30, 9, 3, 3, 56] := by simpa using Array.mem_of_getElem? ht
 simp only [List.mem_cons, List.mem_nil_iff, or_false] at hm
 rcases hm with rfl | rfl | rfl | rfl | rfl
 ·exact (show Tryz.prog.wantsStandIn 30 = false by kernel_rfl)
 ·exact (show Tryz.prog.wantsStandIn 9 = false by kernel_rfl)
 ·exact (show Tryz.prog.wantsStandIn 3 = false by kernel_rfl)
 ·exact (show Tryz.prog.wantsStandIn 3 = false by kernel_rfl)
 ·exact (show Tryz.prog.wantsStandIn 56 = false by kernel_rfl)
theorem restWorlds_holds : Rows.RestWorldsUptoCardSaid :=
 Claim7.holds_tied_plain_at .later [] _ _ _ _ restWorlds_said (fun _ h => by cases h) (by kernel_rfl) (fun _ h => by cases h) restWorldsUpto_row_tie rfl ⟨rfl, rfl⟩ (by kernel_rfl) rfl restWorlds_plain (by kernel_rfl)
#print axioms restWorlds_holds
end Go.Proofs.YtbbbeldbhlehnaaGreatDoor
