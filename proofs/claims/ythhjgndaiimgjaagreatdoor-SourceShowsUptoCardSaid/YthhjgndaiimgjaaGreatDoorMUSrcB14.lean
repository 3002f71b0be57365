/- Parts of a proof, laid together. -/
import Derived.Deep.AppendLies
import Derived.Test.YthhjgndaiimgjaaGreatDoorMUSrcB5
import Derived.Test.YthhjgndaiimgjaaGreatDoorMUSrcB9
set_option linter.unusedSimpArgs false
set_option linter.unusedVariables false
/-! At a step of a region that draws its order: a slice that came in, or one element, appended to an own one. -/
section
set_option linter.unusedVariables false
set_option linter.unusedSimpArgs false
namespace Go.Proofs.YthhjgndaiimgjaaGreatDoor
open Go.RowKit Gno
section
variable {P : Program}
end
theorem infoLink : (Tryz.prog.info? 61).map (fun i => (i.zero, i.size, i.bytes)) = some (some (.agg #[.string ⟨#[]⟩, .string ⟨#[]⟩]), 2, 32) := by kernel_rfl
/-- links as cells. -/
def lkCells (l : Lk) : List Value := [.string l.name, .string l.to]
def lks (l : List Lk) : List Value := l.flatMap lkCells
theorem lks_len (l : List Lk) : (lks l).length = l.length * 2 := by
  induction l with
  | nil => rfl
  | cons a t ih => simp only [lks, List.flatMap_cons, List.length_append, List.length_cons] at *; rw [ih]; simp [lkCells]; omega
theorem lks_get : ∀ (l : List Lk) (i : Nat) (x : Lk), l[i]? = some x → (lks l)[i * 2]? = some (.string x.name) ∧ (lks l)[i * 2 + 1]? = some (.string x.to)
  | a :: t, 0, x, h => by
    obtain rfl : a = x := by simpa using h
    exact ⟨rfl, rfl⟩
  | a :: t, i + 1, x, h => by
    have ih := lks_get t i x (by simpa using h)
    have e : lks (a :: t) = .string a.name :: .string a.to :: lks t := rfl
    rw [e, show (i + 1) * 2 = i * 2 + 1 + 1 by omega, List.getElem?_cons_succ, List.getElem?_cons_succ, List.getElem?_cons_succ, List.getElem?_cons_succ]
    exact ih
/-- an own row of links is a slice of links. -/
theorem links_own {w : World} {B : Nat} {g cap n : Nat} {l : List Lk} (h : w.ownsRow B 61 2 (.slice (some ⟨g, 0, none⟩) n cap) n (lks l)) (hn : n ≤ maxLen) (hs : ∀ x ∈ l, x.name.size ≤ maxLen ∧ x.to.size ≤ maxLen) :
    LinksAt w w.heap.size (some ⟨g, 0, none⟩) n l := by
  have hl : l.length = n := by have := h.1; rw [lks_len] at this; omega
  refine ⟨hl, hn, fun h0 => ⟨g, 0, rfl, (h.lt g rfl).2, fun i x hx => ?_⟩⟩
  have hg := lks_get l i x hx
  have hadd : ∀ j, (⟨g, 0, none⟩ : Addr).add j = ⟨g, 0 + j, none⟩ := fun j => by unfold Addr.add; split <;> simp_all
  have c0 := h.cells (g := g) rfl _ _ hg.1
  have c1 := h.cells (g := g) rfl _ _ hg.2
  rw [hadd] at c0 c1
  exact ⟨⟨c0, by rw [Nat.add_assoc]; exact c1⟩, hs x (List.mem_of_getElem? hx)⟩
end Go.Proofs.YthhjgndaiimgjaaGreatDoor
end
