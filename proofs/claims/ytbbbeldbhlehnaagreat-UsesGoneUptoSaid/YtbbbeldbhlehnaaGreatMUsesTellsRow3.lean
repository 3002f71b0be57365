/- Parts of a proof, laid together. -/
import Derived.Test.YtbbbeldbhlehnaaGreatRows
import Derived.WalkKit
import Derived.ProofKit
import Derived.OpenShut
import Derived.Carry
set_option linter.unusedSimpArgs false
set_option linter.unusedVariables false
/-! A law's row out of its walk, whatever its parameters: the call returns true, and below the old heap's size nothing has turned. -/
section
set_option linter.unusedVariables false
set_option linter.unusedSimpArgs false
namespace Go.Proofs.YtbbbeldbhlehnaaGreat
open Go.ChangeShapes Go.WideShapes Go.ChangeAt Go.RowKit

theorem own : ownKnob Tryz.prog.godebug = none := by kernel_rfl
theorem laidOut : laidOutB Tryz.prog = true := by kernel_rfl

section
variable {H : Type} {enc : TypeId × Value → H} {P : Program}

def readAll (P : Program) (ts : List TypeId) : Bool := ts.all fun t => P.readableRec t && decide (t < P.types.size)

theorem trodAll_lt {W : World} : ∀ {ts : List TypeId} {vs : List Value} {ds : List (DataW H)} {ps : List MemPlace}, readAll P ts = true → laidOutB P = true →
    DataW.TrodAll enc P W 0 (fun _ => true) true ts vs ds ps → ∀ {W' : World}, Below W.heap.size W W' → (∀ x ∈ ps, x.block < W.heap.size) →
    DataW.TrodAll enc P W' 0 (fun b => decide (b < W.heap.size)) true ts vs ds ps
  | [], [], [], _, _, _, h, _, _, _ => h
  | t :: ts, v :: vs, d :: ds, ps, hr, hl, h, W', hb, hlt => by
    obtain ⟨p, q, h0, h1, rfl⟩ := h
    simp only [readAll, List.all_cons, Bool.and_eq_true, decide_eq_true_eq] at hr
    exact ⟨p, q, Below.trod hl hr.1.1 hr.1.2 h0 hb (fun x hx => hlt x (by simp [hx])), trodAll_lt hr.2 hl h1 hb (fun x hx => hlt x (by simp [hx])), rfl⟩

/-- the row's post, where a law has returned true. -/
theorem law_post {f : Func} {s : ChangeSpec} {W W' : World} {args : Array Value} {ds gs : List (DataW H)} {before : List MemPlace} {tb : TypeId}
    (hl : laidOutB P = true) (hr : readAll P f.params.toList = true) (hv : s.vars = []) (hrt : f.resultTypes = #[tb]) (htb : P.underlying tb = some .bool)
    (hW : DataW.Whole enc P f.params.toList s.vars false W args.toList ds gs before) (hb : Below W.heap.size W W')
    (h1 : (s.fn H (ds ++ [])).results = [.lit (.bool true)]) (h2 : (s.fn H (ds ++ [])).args = ds) (h3 : (s.fn H (ds ++ [])).vars = []) :
    s.post enc P f false true false false W args (.bool true) W' := by
  have hlt : ∀ x ∈ before, x.block < W.heap.size := fun x hx => hW.lt x hx
  have hW0 := hW
  obtain ⟨p, q, hA, hV, rfl, _, _⟩ := hW
  rw [hv] at hV
  obtain ⟨rfl, rfl⟩ := trodVars_none hV
  refine ⟨ds, [], p ++ [], [], p, [], hW0, ?_, ?_, ?_, hb.frame _, fun h => by cases h⟩
  · rw [h1, hrt]
    exact trodAll_cons_mk (shut_bool htb true) trodAll_mk0
  · rw [h2]
    exact trodAll_lt hr hl hA hb (fun x hx => hlt x (by simp [hx]))
  · rw [h3, hv]
    exact rfl
end
end Go.Proofs.YtbbbeldbhlehnaaGreat
end
