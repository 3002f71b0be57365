/- Proved: for all data and every name, together of bulk at most 1048576, the statement DataTells returns true: Check, Name and Zone answer what the reference answers. -/
import Derived.JoinedCond
import Derived.Test.YtlngalmdidaahaaMDataTellsRow30
import Derived.Test.YtlngalmdidaahaaMDataTellsRow2
import Derived.Test.YtlngalmdidaahaaMDataTellsRow18
import Derived.Test.YtlngalmdidaahaaMDataTellsRow21
set_option linter.unusedSimpArgs false
set_option linter.unusedVariables false
/-! Proved: for all data and every name, together of bulk at most 1048576, the statement DataTells returns true: Check, Name and Zone answer what the reference answers. -/
section
namespace Go.Proofs.Ytlngalmdidaahaa
open Go.ChangeShapes Go.WideShapes Go.ChangeAt Go.RowKit Gno

/-! ### the row's step -/
set_option maxRecDepth 100000 in
theorem dataTells_lifted (os : Os) (started : os.Started) (H : Type) (enc : TypeId × Value → H) (F : Stop.Interp) :
    ReturnsInHanded {} Try.checked os 3 .any ((Rows.OpenSpec.upto Rows.dataTellsSpec).pre6 enc Try.prog Try.f3 Rows.dataTellsUptoRow.domain false) (((Rows.OpenSpec.upto Rows.dataTellsSpec).at F).post enc Try.prog Try.f3 false true false false) := by
  refine returnsInHanded_of_cond_shaped (C := Try.checked) (s := Rows.OpenSpec.upto Rows.dataTellsSpec) (k := Rows.uptoSmall) rfl own started (by kernel_rfl) Try.func3
    (OpenSpec.witness (enc := enc) (C := Try.checked) (s := Rows.OpenSpec.upto Rows.dataTellsSpec) (k := Rows.uptoSmall) rfl false ⟨#[], #[.agg #[.slice none 0 0, .slice none 0 0, .slice none 0 0], .string ⟨#[]⟩], []⟩ 8 (by kernel_rfl) (by kernel_rfl) (by kernel_rfl)
      (x := ([.agg [.nil, .nil, .nil], .lit (.string [])], [], [])) (by kernel_rfl) rfl (by kernel_rfl)) ?_
  intro W base args ds gs before hval0 hW hcnd hk hsh _
  have hval : ∀ (j : Nat) t v, Try.f3.params[j]? = some t → args[j]? = some v → Value.okWide Try.prog W .any base t v := hval0
  have hW' : DataW.Whole enc Try.prog Try.f3.params.toList Rows.dataTellsSpec.vars false W args.toList ds gs before := hW
  obtain ⟨p, q, hA0, hV, rfl, hfz, hnd⟩ := hW'
  have hW' : DataW.Whole enc Try.prog Try.f3.params.toList Rows.dataTellsSpec.vars false W args.toList ds gs (p ++ q) := hW
  have hA : DataW.TrodAll enc Try.prog W 0 (fun _ => true) true Try.f3.params.toList args.toList ds p := hA0
  rw [Try.params3] at hA hval
  obtain ⟨v0, vs0, d0, ds0, p0, q0, hargs, rfl, rfl, h0, r0⟩ := trodAll_cons hA
  obtain ⟨v1, vs1, d1, ds1, p1, q1, rfl, rfl, rfl, h1, r1⟩ := trodAll_cons r0
  obtain ⟨rfl, rfl, rfl⟩ := trodAll_nil r1
  obtain rfl : args = #[v0, v1] := by cases args; simp_all
  obtain ⟨rfl, rfl⟩ := trodVars_none hV
  obtain ⟨dt0, rfl, hD0⟩ := openData (hval 0 26 v0 rfl rfl) h0 (small_of hk (by simp))
  obtain ⟨a1, rfl, rfl, rfl, w1⟩ := ChangeMaps.open_string Try.underlying9 (hval 1 9 v1 rfl rfl) h1
  clear hA0 hval0
  refine (dataTells_walk dt0 a1 W w1 hD0 (maxAt_of hsh)).mono fun e W' ⟨he, hg⟩ => ?_
  subst he
  exact ⟨_, rfl, law_post laidOut (by kernel_rfl) rfl rfl Try.underlying4 hW' hg rfl rfl rfl⟩

theorem dataTells_holds : Rows.DataTellsUptoSaid :=
  OpenClaim.holds_of_cond 3 Try.f3 rfl rfl rfl rfl rfl rfl rfl ⟨rfl, rfl, rfl, rfl, rfl⟩ rfl rfl rfl rfl rfl (by kernel_rfl) Try.func3 (by kernel_rfl)
    (of_decide_eq_true (by kernel_rfl)) (by unfold Func.isWrapper; first | (rw [if_pos (by decide +kernel)]; kernel_rfl) | (rw [if_neg (by decide +kernel)]; exact ⟨rfl, rfl⟩))
    (fun os started H enc _ F => dataTells_lifted os started H enc F)
#print axioms dataTells_holds
end Go.Proofs.Ytlngalmdidaahaa
end
