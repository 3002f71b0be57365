/- Proved: for every world, locale and zone's name, every time and pattern, together of bulk at most 1048576, the statement NamesTells returns true: Check, City and Name answer what the reference answers. -/
import Derived.Test.YtbbbeldbhlehnaaGreatDoorCards
import Derived.Test.YtbbbeldbhlehnaaGreatDoorTie
import Derived.JoinedCond
import Derived.Deep.DeepHandedRow
import Derived.Lay
import Derived.Test.YtbbbeldbhlehnaaGreatDoorMUNmTl0
import Derived.Test.YtbbbeldbhlehnaaGreatDoorMUNmTl1
import Derived.Test.YtbbbeldbhlehnaaGreatDoorMUNmTl2
import Derived.Test.YtbbbeldbhlehnaaGreatDoorMUNmTl3
import Derived.Test.YtbbbeldbhlehnaaGreatDoorMUNmTl4
import Derived.Test.YtbbbeldbhlehnaaGreatDoorMUNmTl5
import Derived.Test.YtbbbeldbhlehnaaGreatDoorMUNmTl6
import Derived.Test.YtbbbeldbhlehnaaGreatDoorMUNmTl7
import Derived.Test.YtbbbeldbhlehnaaGreatDoorMUNmTl8
import Derived.Test.YtbbbeldbhlehnaaGreatDoorMUNmTl9
import Derived.Test.YtbbbeldbhlehnaaGreatDoorMUNmTl10
import Derived.Test.YtbbbeldbhlehnaaGreatDoorMUNmTl11
import Derived.Test.YtbbbeldbhlehnaaGreatDoorMUNmTl12
import Derived.Test.YtbbbeldbhlehnaaGreatDoorMUNmTl13
import Derived.Test.YtbbbeldbhlehnaaGreatDoorMUNmTl14
import Derived.Test.YtbbbeldbhlehnaaGreatDoorMUNmTl15
import Derived.Test.YtbbbeldbhlehnaaGreatDoorMUNmTl16
import Derived.Test.YtbbbeldbhlehnaaGreatDoorMUNmTl17
import Derived.Test.YtbbbeldbhlehnaaGreatDoorMUNmTl18
import Derived.Test.YtbbbeldbhlehnaaGreatDoorMUNmTl19
import Derived.Test.YtbbbeldbhlehnaaGreatDoorMUNmTl20
import Derived.Test.YtbbbeldbhlehnaaGreatDoorMUNmTl21
import Derived.Test.YtbbbeldbhlehnaaGreatDoorMUNmTl22
import Derived.Test.YtbbbeldbhlehnaaGreatDoorMUNmTl23
import Derived.Test.YtbbbeldbhlehnaaGreatDoorMUNmTl24
import Derived.Test.YtbbbeldbhlehnaaGreatDoorMUNmTl25
import Derived.Test.YtbbbeldbhlehnaaGreatDoorMUNmTl26
import Derived.Test.YtbbbeldbhlehnaaGreatDoorMUNmTl27
import Derived.Test.YtbbbeldbhlehnaaGreatDoorMUNmTl28
import Derived.Test.YtbbbeldbhlehnaaGreatDoorMUNmTl29
import Derived.Test.YtbbbeldbhlehnaaGreatDoorMUNmTl30
import Derived.Test.YtbbbeldbhlehnaaGreatDoorMUNmTl31
import Derived.Test.YtbbbeldbhlehnaaGreatDoorMUNmTl32
import Derived.Test.YtbbbeldbhlehnaaGreatDoorMUNmTl33
import Derived.Test.YtbbbeldbhlehnaaGreatDoorMUNmTl34
import Derived.Test.YtbbbeldbhlehnaaGreatDoorMUNmTl35
import Derived.Test.YtbbbeldbhlehnaaGreatDoorMUNmTl36
import Derived.Test.YtbbbeldbhlehnaaGreatDoorMUNmTl37
import Derived.Test.YtbbbeldbhlehnaaGreatDoorMUNmTl38
set_option linter.unusedSimpArgs false
set_option linter.unusedVariables false
set_option linter.unusedVariables false
set_option linter.unusedSimpArgs false
namespace Go.Proofs.YtbbbeldbhlehnaaGreatDoor
open Go.ChangeShapes Go.WideShapes Go.ChangeAt Go.RowKit Gno
theorem namesTells_met (os : Os) : laidMetH Tryz.prog Rows.namesTellsUptoRow.laid ((World.laidAll Tryz.prog os Rows.namesTellsUptoRow.laid).forCall (fun _ _ => 0) ⟨#[], #[.agg #[.slice none 0 0, .slice none 0 0, .slice none 0 0, .slice none 0 0, .slice none 0 0], .string ⟨#[]⟩, .string ⟨#[]⟩, .int .i64 0, .int .i64 0], []⟩).memory := by
  rw [MakeChecks.laidMetH_plain _ _ _ (by kernel_rfl)]
  exact laidMet_laidAll _ (by kernel_rfl) (by kernel_rfl)
set_option maxRecDepth 100000 in
theorem namesTells_lifted (os : Os) (started : os.Started) (H : Type) (enc : TypeId × Value → H) (F : Stop.Interp) :
    ReturnsInHanded {} Tryz.checked os 3 .any ((Rows.OpenSpec.upto Rows.namesTellsSpec).preRow enc Tryz.prog Tryz.f3 Rows.namesTellsUptoRow.domain false Rows.namesTellsUptoRow.laid) (((Rows.OpenSpec.upto Rows.namesTellsSpec).at F).post enc Tryz.prog Tryz.f3 false true false false) := by
  refine returnsInHanded_of_row (C := Tryz.checked) (s := Rows.OpenSpec.upto Rows.namesTellsSpec) own started (by kernel_rfl) Tryz.func3
    (witness_row_at (enc := enc) (C := Tryz.checked) false (World.laidAll Tryz.prog os Rows.namesTellsUptoRow.laid) #[.agg #[.slice none 0 0, .slice none 0 0, .slice none 0 0, .slice none 0 0, .slice none 0 0], .string ⟨#[]⟩, .string ⟨#[]⟩, .int .i64 0, .int .i64 0] (World.laidAll_os _ _ _) (by kernel_rfl) (by kernel_rfl) (by kernel_rfl)
      (OpenSpec.preRow_of_cond 8 (x := ([.agg [.agg [.nil, .nil, .nil], .nil, .nil], .lit (.string []), .lit (.string []), .lit (.int .i64 0), .lit (.int .i64 0)], [], [])) (by kernel_rfl) (by kernel_rfl) (fun k hk => by cases hk; kernel_rfl) (by kernel_rfl) (namesTells_met os))) ?_
  intro W base args ds gs before hval0 hW _ hcond _ hlaid hsh _
  have hk : Rows.uptoSmall H (ds ++ gs) = true := hcond _ rfl
  have hval : ∀ (j : Nat) t v, Tryz.f3.params[j]? = some t → args[j]? = some v → Value.okWide Tryz.prog W .any base t v := hval0
  have hW' : DataW.Whole enc Tryz.prog Tryz.f3.params.toList Rows.namesTellsSpec.vars false W args.toList ds gs before := hW
  obtain ⟨p, q, hA0, hV, rfl, hfz, hnd⟩ := hW'
  have hW' : DataW.Whole enc Tryz.prog Tryz.f3.params.toList Rows.namesTellsSpec.vars false W args.toList ds gs (p ++ q) := hW
  have hA : DataW.TrodAll enc Tryz.prog W 0 (fun _ => true) true Tryz.f3.params.toList args.toList ds p := hA0
  rw [Tryz.params3] at hA hval
  obtain ⟨v0, vs0, d0, ds0, p0, q0, hargs, rfl, rfl, h0, r0⟩ := trodAll_cons hA
  obtain ⟨v1, vs1, d1, ds1, p1, q1, rfl, rfl, rfl, h1, r1⟩ := trodAll_cons r0
  obtain ⟨v2, vs2, d2, ds2, p2, q2, rfl, rfl, rfl, h2, r2⟩ := trodAll_cons r1
  obtain ⟨v3, vs3, d3, ds3, p3, q3, rfl, rfl, rfl, h3, r3⟩ := trodAll_cons r2
  obtain ⟨v4, vs4, d4, ds4, p4, q4, rfl, rfl, rfl, h4, r4⟩ := trodAll_cons r3
  obtain ⟨rfl, rfl, rfl⟩ := trodAll_nil r4
  obtain rfl : args = #[v0, v1, v2, v3, v4] := by cases args; simp_all
  obtain ⟨rfl, rfl⟩ := trodVars_none hV
  obtain ⟨xw0, rfl, hWd0, hnc0, hbc0⟩ := openWorld (hval 0 30 v0 rfl rfl) h0 (small_of hk (by simp))
  obtain ⟨a1, rfl, rfl, rfl, w1⟩ := ChangeMaps.open_string Tryz.underlying9 (hval 1 9 v1 rfl rfl) h1
  obtain ⟨a2, rfl, rfl, rfl, w2⟩ := ChangeMaps.open_string Tryz.underlying9 (hval 2 9 v2 rfl rfl) h2
  obtain ⟨a3, rfl, rfl, rfl, w3⟩ := open_int Tryz.underlying3 (hval 3 3 v3 rfl rfl) h3
  obtain ⟨a4, rfl, rfl, rfl, w4⟩ := open_int Tryz.underlying3 (hval 4 3 v4 rfl rfl) h4
  clear hA0 hval0
  refine (namesTells_walk xw0 a1 a2 a3 a4 W hWd0 (maxAt_of hsh) w2 w4).mono fun e W' ⟨he, hg⟩ => ?_
  subst he
  exact ⟨_, rfl, law_post laidOut (by kernel_rfl) rfl rfl Tryz.underlying4 hW' hg rfl rfl rfl⟩
set_option maxRecDepth 100000 in
theorem namesTells_f_wf : Rows.namesTellsUptoRow.wf (OpenSpec.ofChange (Rows.OpenSpec.upto Rows.namesTellsSpec).bare) = true := by kernel_rfl
set_option maxRecDepth 100000 in
theorem namesTells_f_laid : laidOutB Tryz.prog = true := by kernel_rfl
set_option maxRecDepth 100000 in
theorem namesTells_f_rowed : mapsRowed Tryz.prog = true := by kernel_rfl
set_option maxRecDepth 100000 in
theorem namesTells_f_read : Tryz.f3.params.all (Tryz.prog.readableRec ·) = true := by kernel_rfl
set_option maxRecDepth 100000 in
theorem namesTells_f_tie : namedTie Tryz.prog Rows.namesTellsUptoRow.named (Rows.OpenSpec.upto Rows.namesTellsSpec).bare.vars = true := by kernel_rfl
set_option maxRecDepth 100000 in
theorem namesTells_f_inpl : (Rows.namesTellsUptoRow.inPlace == Tryz.prog.inPlace 3) = true := by kernel_rfl
set_option maxRecDepth 100000 in
theorem namesTells_f_unf : (Rows.namesTellsUptoRow.unfollowed == Tryz.prog.unfollowed 3) = true := by kernel_rfl
set_option maxRecDepth 100000 in
theorem namesTells_f_rec : (Rows.namesTellsUptoRow.recurses == Tryz.prog.recurses 3) = true := by kernel_rfl
set_option maxRecDepth 100000 in
theorem namesTells_f_nam : (Rows.namesTellsUptoRow.named == Tryz.prog.varsNamed 3) = true := by kernel_rfl
set_option maxRecDepth 100000 in
theorem namesTells_f_maps : (Rows.namesTellsUptoRow.maps == (Tryz.f3.params.toList ++ (Rows.OpenSpec.upto Rows.namesTellsSpec).bare.plain.varTypes Tryz.prog).any (Tryz.prog.mapsRec ·)) = true := by kernel_rfl
set_option maxRecDepth 100000 in
theorem namesTells_f_ifc : (Rows.namesTellsUptoRow.ifaces == (Tryz.f3.params.toList ++ (Rows.OpenSpec.upto Rows.namesTellsSpec).bare.plain.varTypes Tryz.prog).any (Tryz.prog.ifacesRec ·)) = true := by kernel_rfl
set_option maxRecDepth 100000 in
theorem namesTells_f_mapso : (Rows.namesTellsUptoRow.mapsOut == Tryz.prog.mapsAmong Tryz.f3.resultTypes.toList) = true := by kernel_rfl
set_option maxRecDepth 100000 in
theorem namesTells_f_loops : (Rows.namesTellsUptoRow.loops == (Tryz.f3.params.toList ++ (Rows.OpenSpec.upto Rows.namesTellsSpec).bare.plain.varTypes Tryz.prog).any (Tryz.prog.loopsFrom ·)) = true := by kernel_rfl
set_option maxRecDepth 100000 in
theorem namesTells_f_wide : (Rows.namesTellsUptoRow.wideKeys == (Tryz.f3.params.toList ++ (Rows.OpenSpec.upto Rows.namesTellsSpec).bare.plain.varTypes Tryz.prog ++ Tryz.f3.resultTypes.toList).any (Tryz.prog.wideKeysFrom ·)) = true := by kernel_rfl
set_option maxRecDepth 100000 in
theorem namesTells_f_vread : (Rows.OpenSpec.upto Rows.namesTellsSpec).bare.vars.all (Tryz.prog.varReadable ·) = true := by kernel_rfl
set_option maxRecDepth 100000 in
theorem namesTells_f_plaink : (Rows.namesTellsUptoRow.plainKeys == Tryz.prog.plainKeys) = true := by kernel_rfl
set_option maxRecDepth 100000 in
theorem namesTells_f_stops : Tryz.prog.stopsHeard = true := by kernel_rfl
set_option maxRecDepth 100000 in
theorem namesTells_f_may : Tryz.prog.mayEnter = true := by kernel_rfl
set_option maxRecDepth 100000 in
theorem namesTells_f_lift : (Rows.namesTellsUptoRow.lifted == Tryz.prog.liftsFinal) = true := by kernel_rfl
set_option maxRecDepth 100000 in
theorem namesTells_f_make : (Tryz.prog.make == some Rows.namesTellsUptoRow.make) = true := by kernel_rfl
set_option maxRecDepth 100000 in
theorem namesTells_f_veil : (Rows.namesTellsUptoRow.veiled == (Tryz.f3.params.toList ++ (Rows.OpenSpec.upto Rows.namesTellsSpec).bare.plain.varTypes Tryz.prog ++ Tryz.f3.resultTypes.toList).any (Tryz.prog.veiledRec ·)) = true := by kernel_rfl
set_option maxRecDepth 100000 in
theorem namesTells_facts : joinedFacts Tryz.prog 3 Tryz.f3 (Rows.OpenSpec.upto Rows.namesTellsSpec).bare Rows.namesTellsUptoRow = true := by
  unfold joinedFacts
  simp only [Bool.and_eq_true]
  repeat' (refine And.intro ?_ ?_)
  all_goals (first | with_reducible exact namesTells_f_wf | with_reducible exact namesTells_f_laid | with_reducible exact namesTells_f_rowed | with_reducible exact namesTells_f_read | with_reducible exact namesTells_f_tie | with_reducible exact namesTells_f_inpl | with_reducible exact namesTells_f_unf | with_reducible exact namesTells_f_rec | with_reducible exact namesTells_f_nam | with_reducible exact namesTells_f_maps | with_reducible exact namesTells_f_ifc | with_reducible exact namesTells_f_mapso | with_reducible exact namesTells_f_loops | with_reducible exact namesTells_f_wide | with_reducible exact namesTells_f_vread | with_reducible exact namesTells_f_plaink | with_reducible exact namesTells_f_stops | with_reducible exact namesTells_f_may | with_reducible exact namesTells_f_lift | with_reducible exact namesTells_f_make | with_reducible exact namesTells_f_veil | kernel_rfl)
theorem namesTells_said : Rows.NamesTellsUptoSaid :=
  OpenClaim.holds_of_cond 3 Tryz.f3 rfl rfl rfl rfl rfl rfl rfl ⟨rfl, rfl, rfl, rfl, rfl⟩ rfl rfl rfl rfl rfl (by kernel_rfl) Tryz.func3 namesTells_facts
    (of_decide_eq_true (by kernel_rfl)) (by unfold Func.isWrapper; first | (rw [if_pos (by decide +kernel)]; kernel_rfl) | (rw [if_neg (by decide +kernel)]; exact ⟨rfl, rfl⟩))
    (fun os started H enc _ F => by rw [OpenClaim.pre_eq_preRow]; exact namesTells_lifted os started H enc F)
theorem namesTells_plain (f : FuncId) (fn : Func) (hf : Tryz.pinned.checked.prog.funcNamed "gnomon/gnomonlaw.NamesTells" = some f) (hfn : Tryz.pinned.checked.prog.funcs[f]? = some fn) :
    true = Tryz.pinned.checked.prog.looks [] ∧ ∀ (j : Nat) t, fn.params[j]? = some t → Tryz.pinned.checked.prog.wantsStandIn t = false := by
  obtain rfl : f = 3 := Option.some.inj ((show Tryz.prog.funcNamed "gnomon/gnomonlaw.NamesTells" = some 3 by kernel_rfl).symm.trans hf) |>.symm
  obtain rfl : fn = Tryz.f3 := (Option.some.inj (Tryz.func3.symm.trans hfn)).symm
  refine ⟨by kernel_rfl, fun j t ht => ?_⟩
  rw [Tryz.params3] at ht
  have hm : t ∈ [30, 9, 9, 3, 3] := by simpa using Array.mem_of_getElem? ht
  simp only [List.mem_cons, List.mem_nil_iff, or_false] at hm
  rcases hm with rfl | rfl | rfl | rfl | rfl
  · exact (show Tryz.prog.wantsStandIn 30 = false by kernel_rfl)
  · exact (show Tryz.prog.wantsStandIn 9 = false by kernel_rfl)
  · exact (show Tryz.prog.wantsStandIn 9 = false by kernel_rfl)
  · exact (show Tryz.prog.wantsStandIn 3 = false by kernel_rfl)
  · exact (show Tryz.prog.wantsStandIn 3 = false by kernel_rfl)
theorem namesTells_holds : Rows.NamesTellsUptoCardSaid :=
  Claim7.holds_tied_plain_at .later [] _ _ _ _ namesTells_said (fun _ h => by cases h) (by kernel_rfl) (fun _ h => by cases h) namesTellsUpto_row_tie rfl ⟨rfl, rfl⟩ (by kernel_rfl) rfl namesTells_plain (by kernel_rfl)
#print axioms namesTells_holds
end Go.Proofs.YtbbbeldbhlehnaaGreatDoor
