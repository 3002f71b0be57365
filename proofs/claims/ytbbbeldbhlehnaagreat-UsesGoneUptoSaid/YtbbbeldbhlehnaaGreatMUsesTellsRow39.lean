/- Proved: for all data, all uses, every name, every Meta and every time, together of bulk at most 1048576, the statement UsesTells returns true: Check, Meta and Zones answer what the reference answers. -/
import Derived.JoinedCond
import Derived.Test.YtbbbeldbhlehnaaGreatMUsesTellsRow38
import Derived.Test.YtbbbeldbhlehnaaGreatMUsesTellsRow3
import Derived.Test.YtbbbeldbhlehnaaGreatMUsesTellsRow34
import Derived.Test.YtbbbeldbhlehnaaGreatMUsesTellsRow19
import Derived.Test.YtbbbeldbhlehnaaGreatMUsesTellsRow22
set_option linter.unusedSimpArgs false
set_option linter.unusedVariables false
/-! Proved: for all data, all uses, every name, every Meta and every time, together of bulk at most 1048576, the statement UsesTells returns true: Check, Meta and Zones answer what the reference answers. -/
section
set_option linter.unusedVariables false
set_option linter.unusedSimpArgs false
namespace Go.Proofs.YtbbbeldbhlehnaaGreat
open Go.ChangeShapes Go.WideShapes Go.ChangeAt Go.RowKit Gno

/-! ### the row's step -/
set_option maxRecDepth 100000 in
theorem usesTells_lifted (os : Os) (started : os.Started) (H : Type) (enc : TypeId × Value → H) (F : Stop.Interp) :
    ReturnsInHanded {} Tryz.checked os 3 .any ((Rows.OpenSpec.upto Rows.usesTellsSpec).pre6 enc Tryz.prog Tryz.f3 Rows.usesTellsUptoRow.domain false) (((Rows.OpenSpec.upto Rows.usesTellsSpec).at F).post enc Tryz.prog Tryz.f3 false true false false) := by
  refine returnsInHanded_of_cond_shaped (C := Tryz.checked) (s := Rows.OpenSpec.upto Rows.usesTellsSpec) (k := Rows.uptoSmall) rfl own started (by kernel_rfl) Tryz.func3
    (OpenSpec.witness (enc := enc) (C := Tryz.checked) (s := Rows.OpenSpec.upto Rows.usesTellsSpec) (k := Rows.uptoSmall) rfl false ⟨#[], #[.agg #[.slice none 0 0, .slice none 0 0, .slice none 0 0], .slice none 0 0, .string ⟨#[]⟩, .string ⟨#[]⟩, .int .i64 0], []⟩ 8 (by kernel_rfl) (by kernel_rfl) (by kernel_rfl)
      (x := ([.agg [.nil, .nil, .nil], .nil, .lit (.string []), .lit (.string []), .lit (.int .i64 0)], [], [])) (by kernel_rfl) rfl (by kernel_rfl)) ?_
  intro W base args ds gs before hval0 hW hcnd hk hsh _
  have hval : ∀ (j : Nat) t v, Tryz.f3.params[j]? = some t → args[j]? = some v → Value.okWide Tryz.prog W .any base t v := hval0
  have hW' : DataW.Whole enc Tryz.prog Tryz.f3.params.toList Rows.usesTellsSpec.vars false W args.toList ds gs before := hW
  obtain ⟨p, q, hA0, hV, rfl, hfz, hnd⟩ := hW'
  have hW' : DataW.Whole enc Tryz.prog Tryz.f3.params.toList Rows.usesTellsSpec.vars false W args.toList ds gs (p ++ q) := hW
  have hA : DataW.TrodAll enc Tryz.prog W 0 (fun _ => true) true Tryz.f3.params.toList args.toList ds p := hA0
  rw [Tryz.params3] at hA hval
  obtain ⟨v0, vs0, d0, ds0, p0, q0, hargs, rfl, rfl, h0, r0⟩ := trodAll_cons hA
  obtain ⟨v1, vs1, d1, ds1, p1, q1, rfl, rfl, rfl, h1, r1⟩ := trodAll_cons r0
  obtain ⟨v2, vs2, d2, ds2, p2, q2, rfl, rfl, rfl, h2, r2⟩ := trodAll_cons r1
  obtain ⟨v3, vs3, d3, ds3, p3, q3, rfl, rfl, rfl, h3, r3⟩ := trodAll_cons r2
  obtain ⟨v4, vs4, d4, ds4, p4, q4, rfl, rfl, rfl, h4, r4⟩ := trodAll_cons r3
  obtain ⟨rfl, rfl, rfl⟩ := trodAll_nil r4
  obtain rfl : args = #[v0, v1, v2, v3, v4] := by cases args; simp_all
  obtain ⟨rfl, rfl⟩ := trodVars_none hV
  obtain ⟨dt0, rfl, hD0⟩ := openData (hval 0 26 v0 rfl rfl) h0 (small_of hk (by simp))
  obtain ⟨A1, n1, cap1, l1, rfl, hnc1, hU1⟩ := openUses (hval 1 27 v1 rfl rfl) h1
  obtain ⟨a2, rfl, rfl, rfl, w2⟩ := ChangeMaps.open_string Tryz.underlying9 (hval 2 9 v2 rfl rfl) h2
  obtain ⟨a3, rfl, rfl, rfl, w3⟩ := ChangeMaps.open_string Tryz.underlying9 (hval 3 9 v3 rfl rfl) h3
  obtain ⟨a4, rfl, rfl, rfl, w4⟩ := open_int Tryz.underlying3 (hval 4 3 v4 rfl rfl) h4
  clear hA0 hval0
  refine (usesTells_walk dt0 A1 n1 cap1 l1 a2 a3 a4 W hD0 (maxAt_of hsh) hU1 w3).mono fun e W' ⟨he, hg⟩ => ?_
  subst he
  exact ⟨_, rfl, law_post laidOut (by kernel_rfl) rfl rfl Tryz.underlying4 hW' hg rfl rfl rfl⟩

theorem usesTells_holds : Rows.UsesTellsUptoSaid :=
  OpenClaim.holds_of_cond 3 Tryz.f3 rfl rfl rfl rfl rfl rfl rfl ⟨rfl, rfl, rfl, rfl, rfl⟩ rfl rfl rfl rfl rfl (by kernel_rfl) Tryz.func3 (by kernel_rfl)
    (of_decide_eq_true (by kernel_rfl)) (by unfold Func.isWrapper; first | (rw [if_pos (by decide +kernel)]; kernel_rfl) | (rw [if_neg (by decide +kernel)]; exact ⟨rfl, rfl⟩))
    (fun os started H enc _ F => usesTells_lifted os started H enc F)
#print axioms usesTells_holds
end Go.Proofs.YtbbbeldbhlehnaaGreat
end
