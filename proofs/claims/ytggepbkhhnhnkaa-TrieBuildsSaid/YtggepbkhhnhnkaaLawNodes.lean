/- An argument of type []Node, and of type []string, opened. -/
import Derived.Test.YtggepbkhhnhnkaaOpen
import Derived.Test.YtggepbkhhnhnkaaTrM
import Derived.Test.YtggepbkhhnhnkaaTwice
set_option linter.unusedVariables false
set_option linter.unusedSimpArgs false
namespace Go.Proofs.Ytggepbkhhnhnkaa
open Go.ChangeShapes Go.WideShapes Go.ChangeAt Go.RowKit Gno
theorem cellsInt' : Try.prog.cellsOf 3 = 1 := by kernel_rfl
theorem cellsU8' : Try.prog.cellsOf 5 = 1 := by kernel_rfl
theorem cellsString' : Try.prog.cellsOf 9 = 1 := by kernel_rfl
theorem cellsEdge : Try.prog.cellsOf 54 = 2 := by kernel_rfl
theorem cellsNode : Try.prog.cellsOf 49 = 2 := by kernel_rfl
theorem cellsEdges : Try.prog.cellsOf 47 = 1 := by kernel_rfl
section
variable {H : Type} {enc : TypeId × Value → H} {w : World} {base : Nat} {spare : Nat → Bool} {held : Bool}
theorem openNodes {b0 : Nat} {r : Reach} {v : Value} {d : DataW H} {p : List MemPlace}
    (hv : Value.okWide Try.prog w r b0 23 v) (h : DataW.Trod enc Try.prog w base spare held 23 v d p) :
    ∃ (A : Option Addr) (n cap : Nat) (t : List Nd), v = .slice A n cap ∧ NodesAt w w.heap.size A n t := by
  obtain ⟨A, n, cap, l, e, _, _, h4⟩ := open_slice_top (α := Nd) (sz := 2) Try.underlying23 cellsNode (by omega) NdAt (fun fuel cs x ht => by
    obtain ⟨xs, n, _, _, hl, hlen, hf⟩ := DataW.trod_struct Try.underlying49 ht
    match cs, hl.trans cellsNode with
    | [c0, c1], _ =>
      have h0 := hf 0 _ rfl
      have h1 := hf 1 _ rfl
      simp [cellsInt', cellsEdges] at h0 h1
      rw [List.getElem?_eq_getElem (by simp at hlen; omega)] at h0 h1
      obtain ⟨A2, n2, cap2, es, e0, _, _, hes⟩ := open_slice_gen (α := Eg) (sz := 2) Try.underlying47 cellsEdge (by omega) (fun w B b o e => EdAt w b o e ∧ e.c ≤ 255) (fun fuel cs x ht => by
        obtain ⟨xs, n, _, _, hl, hlen, hf⟩ := DataW.trod_struct Try.underlying54 ht
        match cs, hl.trans cellsEdge with
        | [c0, c1], _ =>
          have h0 := hf 0 _ rfl
          have h1 := hf 1 _ rfl
          simp [cellsInt', cellsU8'] at h0 h1
          rw [List.getElem?_eq_getElem (by simp at hlen; omega)] at h0 h1
          obtain ⟨k, e0, _, hw⟩ := DataW.trod_int Try.underlying5 h0
          obtain ⟨t, e1, _⟩ := DataW.trod_int Try.underlying3 h1
          simp at e0 e1
          have hk : 0 ≤ k ∧ k ≤ 255 := by
            have h2 : (decide (IntKind.u8.min ≤ k) && decide (k ≤ IntKind.u8.max)) = true := hw
            rw [Bool.and_eq_true, decide_eq_true_eq, decide_eq_true_eq] at h2
            have h3 : IntKind.u8.min = 0 := by rfl
            have h4 : IntKind.u8.max = 255 := by rfl
            omega
          obtain ⟨c, hc⟩ : ∃ c : Nat, k = (c : Int) := ⟨k.toNat, by omega⟩
          subst hc
          exact ⟨⟨c, t⟩, rfl, fun b o hc => ⟨⟨by have := hc 0 (by omega); simpa [e0] using this, by have := hc 1 (by omega); simpa [e1] using this⟩, by simp; omega⟩⟩) h0
      obtain ⟨wd, e1, _⟩ := DataW.trod_int Try.underlying3 h1
      simp at e0 e1
      have hl2 : es.length = n2 := hes.1
      exact ⟨⟨es, wd⟩, rfl, fun b o hc => ⟨A2, cap2, by have := hc 0 (by omega); simpa [e0, hl2] using this, by have := hc 1 (by omega); simpa [e1] using this, by show EdgesAt w w.heap.size A2 es.length es; rw [hl2]; exact hes⟩⟩) hv h
  exact ⟨A, n, cap, l, e, h4⟩
theorem openStrs {b0 : Nat} {r : Reach} {v : Value} {d : DataW H} {p : List MemPlace}
    (hv : Value.okWide Try.prog w r b0 22 v) (h : DataW.Trod enc Try.prog w base spare held 22 v d p) :
    ∃ (A : Option Addr) (n cap : Nat) (l : List ByteArray), v = .slice A n cap ∧ StrsAt w w.heap.size A n l ∧ ∀ s ∈ l, s.size ≤ maxLen := by
  obtain ⟨A, n, cap, l, e, _, _, h4⟩ := open_slice_top (α := ByteArray) (sz := 1) Try.underlying22 cellsString' (by omega) (fun w B b o s => w.cell? ⟨b, o, none⟩ = some (.string s) ∧ s.size ≤ maxLen) (fun fuel cs x ht => by
    obtain ⟨s, e0, _, hs⟩ := DataW.trod_string Try.underlying9 ht
    subst e0
    exact ⟨s, rfl, fun b o hc => ⟨by have := hc 0 (by omega); simpa using this, hs⟩⟩) hv h
  refine ⟨A, n, cap, l, e, ⟨h4.1, h4.2.1, fun hp => ?_⟩, fun s hs => ?_⟩
  · obtain ⟨b, o, h1, h2, h3⟩ := h4.2.2 hp
    exact ⟨b, o, h1, h2, fun i s hi => by have := (h3 i s hi).1; rwa [Nat.mul_one] at this⟩
  · obtain ⟨i, hi, rfl⟩ := List.getElem_of_mem hs
    have hp : 0 < n := by rw [← h4.1]; omega
    obtain ⟨b, o, h1, h2, h3⟩ := h4.2.2 hp
    exact (h3 i _ (List.getElem?_eq_getElem hi)).2
end
end Go.Proofs.Ytggepbkhhnhnkaa
