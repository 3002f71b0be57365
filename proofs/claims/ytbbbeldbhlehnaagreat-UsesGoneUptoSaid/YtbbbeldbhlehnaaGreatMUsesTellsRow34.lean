/- Parts of a proof, laid together. -/
import Derived.Test.YtbbbeldbhlehnaaGreatMUsesTellsRow33
import Derived.Test.YtbbbeldbhlehnaaGreatMUsesTellsRow19
set_option linter.unusedSimpArgs false
set_option linter.unusedVariables false
/-! An argument of type []Use, opened. -/
section
set_option linter.unusedVariables false
set_option linter.unusedSimpArgs false
namespace Go.Proofs.YtbbbeldbhlehnaaGreat
open Go.ChangeShapes Go.WideShapes Go.ChangeAt Go.RowKit Gno
theorem cellsUse : Tryz.prog.cellsOf 43 = 4 := by kernel_rfl
section
variable {H : Type} {enc : TypeId × Value → H} {w : World} {base : Nat} {spare : Nat → Bool} {held : Bool}
set_option maxRecDepth 100000 in
theorem openUses {b0 : Nat} {r : Reach} {v : Value} {d : DataW H} {p : List MemPlace}
    (hv : Value.okWide Tryz.prog w r b0 27 v) (h : DataW.Trod enc Tryz.prog w base spare held 27 v d p) :
    ∃ (A : Option Addr) (n cap : Nat) (l : List Us), v = .slice A n cap ∧ n ≤ cap ∧ UsesAt w w.heap.size A n l := by
  obtain ⟨A, n, cap, l, e, hnc, _, h4⟩ := open_slice_top (α := Us) (sz := 4) Tryz.underlying27 cellsUse (by omega) (fun w B b o u => UsAt w b o u ∧ u.zone.size ≤ maxLen ∧ u.mt.size ≤ maxLen) (fun fuel cs x ht => by
    obtain ⟨xs, n, _, _, hl, hlen, hf⟩ := DataW.trod_struct Tryz.underlying43 ht
    match cs, hl.trans cellsUse with
    | [c0, c1, c2, c3], _ =>
      have h0 := hf 0 _ rfl
      have h1 := hf 1 _ rfl
      have h2 := hf 2 _ rfl
      have h3 := hf 3 _ rfl
      simp [cellsInt, cellsString] at h0 h1 h2 h3
      rw [List.getElem?_eq_getElem (by simp at hlen; omega)] at h0 h1 h2 h3
      obtain ⟨z, e0, _, hs⟩ := DataW.trod_string Tryz.underlying9 h0
      obtain ⟨f, e1, _⟩ := DataW.trod_int Tryz.underlying3 h1
      obtain ⟨t, e2, _⟩ := DataW.trod_int Tryz.underlying3 h2
      obtain ⟨m, e3, _, hs3⟩ := DataW.trod_string Tryz.underlying9 h3
      simp at e0 e1 e2 e3
      exact ⟨⟨z, f, t, m⟩, rfl, fun b o hc => ⟨⟨by have h9 := hc 0 (by omega); rw [e0] at h9; exact h9, by have h9 := hc 1 (by omega); rw [e1] at h9; exact h9, by have h9 := hc 2 (by omega); rw [e2] at h9; exact h9, by have h9 := hc 3 (by omega); rw [e3] at h9; exact h9⟩, hs, hs3⟩⟩) hv h
  exact ⟨A, n, cap, l, e, hnc, h4⟩
end
end Go.Proofs.YtbbbeldbhlehnaaGreat
end
