/- Offsets as text: the styles looked up. -/
import Derived.Test.YtggepbkhhnhnkaaDoorOfS
set_option linter.unusedVariables false
set_option linter.unusedSimpArgs false
namespace Go.Proofs.YtggepbkhhnhnkaaDoor
open Go.RowKit Gno Go.Maps
theorem zero_style (w : World) : (zeroValue 33).run Tryd.prog w = .ok (.agg #[.string ⟨#[]⟩, .string ⟨#[]⟩, .nilFunc]) w := by kernel_rfl
def LookAt (w : World) (b : Nat) (k : Int) (a z : ByteArray) (f : Nat) : Prop := (Instr.lookup 35 (.map (some b)) (.int .i64 k) true).run Tryd.prog w = .ok (.tuple #[.agg #[.string a, .string z, .func (.func f) #[] #[]], .bool true]) w
theorem wf_small {k : Int} (h : 1 ≤ k ∧ k ≤ 4) : (Lit.int .i64 k).wf = true := by
  have hx : k = 1 ∨ k = 2 ∨ k = 3 ∨ k = 4 := by omega
  rcases hx with rfl | rfl | rfl | rfl <;> decide
theorem look_of {w : World} {b : Nat} (h : w.ownsMap Tryd.prog 3 heldR b 4 stylesD) {k : Int} (hk : (Lit.int .i64 k).wf = true) {V : Value} (hat : stylesD.atKey (.int .i64 k) (.held (.agg #[.string ⟨#[]⟩, .string ⟨#[]⟩, .nilFunc])) = .held V) {s : Bool} (hs : Maps.has stylesD (.int .i64 k) = s) :
    (Instr.lookup 35 (.map (some b)) (.int .i64 k) true).run Tryd.prog w = .ok (.tuple #[V, .bool s]) w := by
  obtain ⟨v, ps, hrun, hv⟩ := h.look_ok keyed_int Tryd.underlying35 (zero_style w) (heldR_mk _) (keyOf_int_mk Tryd.underlying3 hk)
  rw [hat] at hv
  simp only [heldR, Option.some.injEq, Prod.mk.injEq, DataW.held.injEq] at hv
  rw [hrun, hv.1, hs]
theorem look_1 {w : World} {b : Nat} (h : w.ownsMap Tryd.prog 3 heldR b 4 stylesD) : LookAt w b 1 ⟨#[]⟩ ⟨#[]⟩ 22 := look_of h (by decide) (by rfl) (by rfl)
theorem look_2 {w : World} {b : Nat} (h : w.ownsMap Tryd.prog 3 heldR b 4 stylesD) : LookAt w b 2 ⟨#[]⟩ ⟨#[90]⟩ 18 := look_of h (by decide) (by rfl) (by rfl)
theorem look_3 {w : World} {b : Nat} (h : w.ownsMap Tryd.prog 3 heldR b 4 stylesD) : LookAt w b 3 ⟨#[71, 77, 84]⟩ ⟨#[71, 77, 84]⟩ 20 := look_of h (by decide) (by rfl) (by rfl)
theorem look_4 {w : World} {b : Nat} (h : w.ownsMap Tryd.prog 3 heldR b 4 stylesD) : LookAt w b 4 ⟨#[71, 77, 84]⟩ ⟨#[71, 77, 84]⟩ 18 := look_of h (by decide) (by rfl) (by rfl)
theorem stylesD_map : stylesD = .map [(.int .i64 1, .held V1), (.int .i64 2, .held V2), (.int .i64 3, .held V3), (.int .i64 4, .held V4)] := by rfl
theorem look_no {w : World} {b : Nat} (h : w.ownsMap Tryd.prog 3 heldR b 4 stylesD) {k : Int} (hw : (Lit.int .i64 k).wf = true) (hk : kindB k = false) : (Instr.lookup 35 (.map (some b)) (.int .i64 k) true).run Tryd.prog w = .ok (.tuple #[.agg #[.string ⟨#[]⟩, .string ⟨#[]⟩, .nilFunc], .bool false]) w := by
  have h1 : ¬ (1 ≤ k ∧ k ≤ 4) := fun h => by rw [kindB_iff.2 h] at hk; cases hk
  have e1 : decide ((1 : Int) = k) = false := decide_eq_false (by omega)
  have e2 : decide ((2 : Int) = k) = false := decide_eq_false (by omega)
  have e3 : decide ((3 : Int) = k) = false := decide_eq_false (by omega)
  have e4 : decide ((4 : Int) = k) = false := decide_eq_false (by omega)
  refine look_of h hw ?_ ?_
  · rw [stylesD_map]
    simp only [DataW.atKey, List.find?, Lit.sameKey]
    simp only [true_and, e1, e2, e3, e4]
  · rw [stylesD_map]
    simp [Maps.has, Lit.sameKey]
    omega
end Go.Proofs.YtggepbkhhnhnkaaDoor
