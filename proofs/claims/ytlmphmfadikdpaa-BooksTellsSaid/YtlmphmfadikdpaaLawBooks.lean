/- An argument of type []Book, opened. -/
import Derived.Test.YtlmphmfadikdpaaOpen
import Derived.Test.YtlmphmfadikdpaaBk
set_option linter.unusedVariables false
namespace Go.Proofs.Ytlmphmfadikdpaa
open Go.ChangeShapes Go.WideShapes Go.ChangeAt Go.RowKit Gno
theorem cellsInt' : Try.prog.cellsOf 3 = 1 := by kernel_rfl
theorem cellsString' : Try.prog.cellsOf 9 = 1 := by kernel_rfl
theorem cellsPair : Try.prog.cellsOf 51 = 2 := by kernel_rfl
theorem cellsBook : Try.prog.cellsOf 49 = 3 := by kernel_rfl
theorem cellsPairs : Try.prog.cellsOf 47 = 1 := by kernel_rfl
section
variable {H : Type} {enc : TypeId × Value → H} {w : World} {base : Nat} {spare : Nat → Bool} {held : Bool}
theorem openBooks {b0 : Nat} {r : Reach} {v : Value} {d : DataW H} {p : List MemPlace}
    (hv : Value.okWide Try.prog w r b0 42 v) (h : DataW.Trod enc Try.prog w base spare held 42 v d p) :
    ∃ (A : Option Addr) (n cap : Nat) (bs : List Bk), v = .slice A n cap ∧ BooksAt w w.heap.size A n bs := by
  obtain ⟨A, n, cap, l, e, _, _, h4⟩ := open_slice_top (α := Bk) (sz := 3) Try.underlying42 cellsBook (by omega) (fun w B b o k => BookAt w b o k ∧ k.loc.size ≤ maxLen ∧ PairsAt w B k.A k.n k.ps) (fun fuel cs x ht => by
    obtain ⟨xs, n, _, _, hl, hlen, hf⟩ := DataW.trod_struct Try.underlying49 ht
    match cs, hl.trans cellsBook with
    | [c0, c1, c2], _ =>
      have h0 := hf 0 _ rfl
      have h1 := hf 1 _ rfl
      have h2 := hf 2 _ rfl
      simp [cellsInt', cellsString', cellsPairs] at h0 h1 h2
      rw [List.getElem?_eq_getElem (by simp at hlen; omega)] at h0 h1 h2
      obtain ⟨loc, e0, _, hs⟩ := DataW.trod_string Try.underlying9 h0
      obtain ⟨par, e1, _⟩ := DataW.trod_int Try.underlying3 h1
      obtain ⟨A2, n2, cap2, ps, e2, _, _, hps⟩ := open_slice_gen (α := Pr) (sz := 2) Try.underlying47 cellsPair (by omega) (fun w B b o k => PairAt w b o k ∧ k.key.size ≤ maxLen ∧ k.text.size ≤ maxLen) (fun fuel cs x ht => by
        obtain ⟨xs, n, _, _, hl, hlen, hf⟩ := DataW.trod_struct Try.underlying51 ht
        match cs, hl.trans cellsPair with
        | [c0, c1], _ =>
          have h0 := hf 0 _ rfl
          have h1 := hf 1 _ rfl
          simp [cellsInt', cellsString'] at h0 h1
          rw [List.getElem?_eq_getElem (by simp at hlen; omega)] at h0 h1
          obtain ⟨k, e0, _, hs⟩ := DataW.trod_string Try.underlying9 h0
          obtain ⟨t, e1, _, hs1⟩ := DataW.trod_string Try.underlying9 h1
          simp at e0 e1
          exact ⟨⟨k, t⟩, rfl, fun b o hc => ⟨⟨by have := hc 0 (by omega); simpa [e0] using this, by have := hc 1 (by omega); simpa [e1] using this⟩, hs, hs1⟩⟩) h2
      simp at e0 e1 e2
      exact ⟨⟨loc, par, A2, n2, cap2, ps⟩, rfl, fun b o hc => ⟨⟨by have := hc 0 (by omega); simpa [e0] using this, by have := hc 1 (by omega); simpa [e1] using this, by have := hc 2 (by omega); simpa [e2] using this⟩, hs, hps⟩⟩) hv h
  exact ⟨A, n, cap, l, e, h4⟩
end
end Go.Proofs.Ytlmphmfadikdpaa
