/- At a step of a region that draws its order: a slice that came in, or one element, appended to an own one. -/
import Derived.Deep.AppendLies
import Derived.Test.YtbbbeldbhlehnaaGreatDoorMUTrB28
import Derived.Test.YtbbbeldbhlehnaaGreatDoorMUTrB29
set_option linter.unusedSimpArgs false
set_option linter.unusedVariables false
section
namespace Go.Proofs.YtbbbeldbhlehnaaGreatDoor
open Go.RowKit Gno
section
variable {P : Program}
end
theorem infoLink : (Tryz.prog.info? 127).map (fun i => (i.zero, i.size, i.bytes)) = some (some (.agg #[.string ⟨#[]⟩, .string ⟨#[]⟩]), 2, 32) := by kernel_rfl
def lkCells (l : Lk) : List Value := [.string l.name, .string l.to]
def lks (l : List Lk) : List Value := l.flatMap lkCells
theorem lks_len (l : List Lk) : (lks l).length = l.length * 2 := by
 induction l with
 | nil => rfl
 | cons a t ih => simp only [lks, List.flatMap_cons, List.length_append, List.length_cons] at *; rw [ih]; simp [lkCells]; omega
theorem lks_get : ∀ (l : List Lk) (i : Nat) (x : Lk), l[i]? = some x → (lks l)[i * 2]? = some (.string x.name) ∧ (lks l)[i * 2 + 1]? = some (.string x.to)
 | a :: t, 0, x, h => by
   obtain rfl : a = x := by simpa using h
   exact ⟨rfl, rfl⟩
 | a :: t, i + 1, x, h => by
   have ih := lks_get t i x (by simpa using h)
   have e : lks (a :: t) = .string a.name :: .string a.to :: lks t := rfl
   rw [e, show (i + 1) * 2 = i * 2 + 1 + 1 by omega, List.getElem?_cons_succ, List.getElem?_cons_succ, List.getElem?_cons_succ, List.getElem?_cons_succ]
   exact ih
theorem lks_of : ∀ (l : List Lk) (j : Nat) (u : Value), (lks l)[j]? = some u → ∃ i x, l[i]? = some x ∧ ((j = i * 2 ∧ u = .string x.name) ∨ (j = i * 2 + 1 ∧ u = .string x.to))
 | [], j, u, h => by simp [lks] at h
 | a :: t, j, u, h => by
   have e : lks (a :: t) = .string a.name :: .string a.to :: lks t := rfl
   rw [e] at h
   match j, h with
   | 0, h => exact ⟨0, a, rfl, .inl ⟨rfl, by simpa using h.symm⟩⟩
   | 1, h => exact ⟨0, a, rfl, .inr ⟨rfl, by simpa using h.symm⟩⟩
   | j + 2, h =>
     obtain ⟨i, x, hx, hc⟩ := lks_of t j u (by simpa using h)
     refine ⟨i + 1, x, by simpa using hx, ?_⟩
     rcases hc with ⟨rfl, hu⟩ | ⟨rfl, hu⟩
     ·exact .inl ⟨by omega, hu⟩
     ·exact .inr ⟨by omega, hu⟩
theorem lks_one {l : List Lk} : ∀ u ∈ lks l, u.oneCell' = true := by
 intro u hu
 obtain ⟨j, hj⟩ := List.getElem?_of_mem hu
 obtain ⟨i, x, _, ⟨_, rfl⟩ | ⟨_, rfl⟩⟩ := lks_of l j u hj <;> rfl
theorem lks_cells {w : World} {B : Nat} {A : Option Addr} {n : Nat} {l : List Lk} (h : LinksAt w B A n l) {ad : Addr} (hA : A = some ad) : ∀ j u, (lks l)[j]? = some u → w.cell? (ad.add j) = some u := by
 intro j u hj
 obtain ⟨i, x, hx, hc⟩ := lks_of l j u hj
 have hi := (List.getElem?_eq_some_iff.1 hx).1
 obtain ⟨b, o, hA2, _, hcell⟩ := h.2.2 (by have := h.1; omega)
 rw [hA] at hA2
 obtain rfl : ad = ⟨b, o, none⟩ := by injection hA2
 have hadd : ∀ j, (⟨b, o, none⟩ : Addr).add j = ⟨b, o + j, none⟩ := fun j => by unfold Addr.add; split <;> simp_all
 rw [hadd]
 have := (hcell i x hx).1
 rcases hc with ⟨rfl, rfl⟩ | ⟨rfl, rfl⟩
 ·exact this.1
 ·rw [← Nat.add_assoc]; exact this.2
theorem links_own {w : World} {B : Nat} {g cap n : Nat} {l : List Lk} (h : w.ownsRow B 127 2 (.slice (some ⟨g, 0, none⟩) n cap) n (lks l)) (hn : n ≤ maxLen) (hs : ∀ x ∈ l, x.name.size ≤ maxLen ∧ x.to.size ≤ maxLen) :
 LinksAt w w.heap.size (some ⟨g, 0, none⟩) n l := by
 have hl : l.length = n := by have := h.1; rw [lks_len] at this; omega
 refine ⟨hl, hn, fun h0 => ⟨g, 0, rfl, (h.lt g rfl).2, fun i x hx => ?_⟩⟩
 have hg := lks_get l i x hx
 have hadd : ∀ j, (⟨g, 0, none⟩ : Addr).add j = ⟨g, 0 + j, none⟩ := fun j => by unfold Addr.add; split <;> simp_all
 have c0 := h.cells (g := g) rfl _ _ hg.1
 have c1 := h.cells (g := g) rfl _ _ hg.2
 rw [hadd] at c0 c1
 exact ⟨⟨c0, by rw [Nat.add_assoc]; exact c1⟩, hs x (List.mem_of_getElem? hx)⟩
end Go.Proofs.YtbbbeldbhlehnaaGreatDoor
end
