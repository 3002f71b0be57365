/- Books as cells; an own row of books. -/
import Derived.Test.YtbbbeldbhlehnaaGreatDoorMUNmTl0
import Derived.Test.YtbbbeldbhlehnaaGreatDoorMUNmTl1
import Derived.Test.YtbbbeldbhlehnaaGreatDoorMUNmTl2
import Derived.Test.YtbbbeldbhlehnaaGreatDoorMUNmTl3
import Derived.Test.YtbbbeldbhlehnaaGreatDoorMUNmTl4
import Derived.Test.YtbbbeldbhlehnaaGreatDoorMUNmTl5
import Derived.Test.YtbbbeldbhlehnaaGreatDoorMUNmTl6
import Derived.Test.YtbbbeldbhlehnaaGreatDoorMUNmTl7
import Derived.Test.YtbbbeldbhlehnaaGreatDoorMUNmTl8
import Derived.Test.YtbbbeldbhlehnaaGreatDoorMUNmTl9
import Derived.Test.YtbbbeldbhlehnaaGreatDoorMUNmTl10
import Derived.Test.YtbbbeldbhlehnaaGreatDoorMUNmTl11
import Derived.Test.YtbbbeldbhlehnaaGreatDoorMUNmTl12
import Derived.Test.YtbbbeldbhlehnaaGreatDoorMUNmTl13
import Derived.Test.YtbbbeldbhlehnaaGreatDoorMUNmTl14
import Derived.Test.YtbbbeldbhlehnaaGreatDoorMUNmTl15
import Derived.Test.YtbbbeldbhlehnaaGreatDoorMUNmTl16
import Derived.Test.YtbbbeldbhlehnaaGreatDoorMUNmTl17
import Derived.Test.YtbbbeldbhlehnaaGreatDoorMUNmTl18
import Derived.Test.YtbbbeldbhlehnaaGreatDoorMUNmTl19
import Derived.Test.YtbbbeldbhlehnaaGreatDoorMUNmTl20
import Derived.Test.YtbbbeldbhlehnaaGreatDoorMUNmTl21
import Derived.Test.YtbbbeldbhlehnaaGreatDoorMUNmTl22
import Derived.Test.YtbbbeldbhlehnaaGreatDoorMUNmTl23
import Derived.Test.YtbbbeldbhlehnaaGreatDoorMUNmTl24
import Derived.Test.YtbbbeldbhlehnaaGreatDoorMUNmTl25
import Derived.Test.YtbbbeldbhlehnaaGreatDoorMUNmTl26
import Derived.Test.YtbbbeldbhlehnaaGreatDoorMUNmTl27
import Derived.Test.YtbbbeldbhlehnaaGreatDoorMUNmTl28
import Derived.Test.YtbbbeldbhlehnaaGreatDoorMUNmTl29
import Derived.Test.YtbbbeldbhlehnaaGreatDoorMUNmTl30
import Derived.Test.YtbbbeldbhlehnaaGreatDoorMUNmTl31
import Derived.Test.YtbbbeldbhlehnaaGreatDoorMUNmTl32
import Derived.Test.YtbbbeldbhlehnaaGreatDoorMUNmTl33
import Derived.Test.YtbbbeldbhlehnaaGreatDoorMUNmTl34
import Derived.Test.YtbbbeldbhlehnaaGreatDoorMUNmTl35
import Derived.Test.YtbbbeldbhlehnaaGreatDoorMUNmTl36
import Derived.Test.YtbbbeldbhlehnaaGreatDoorMUNmTl37
import Derived.Test.YtbbbeldbhlehnaaGreatDoorMUNmTl38
set_option linter.unusedSimpArgs false
set_option linter.unusedVariables false
set_option linter.unusedVariables false
set_option linter.unusedSimpArgs false
set_option maxRecDepth 100000
namespace Gno
open Go Go.RowKit Go.Proofs.YtbbbeldbhlehnaaGreatDoor
def bkCells (k : Bk) : List Value := [.string k.loc, .int .i64 k.par, .slice k.A k.n k.cap]
def bks (l : List Bk) : List Value := l.flatMap bkCells
theorem bks_cons (u : Bk) (l : List Bk) : bks (u :: l) = .string u.loc :: .int .i64 u.par :: .slice u.A u.n u.cap :: bks l := rfl
theorem bks_app (l m : List Bk) : bks (l ++ m) = bks l ++ bks m := by unfold bks; simp
theorem bks_len (l : List Bk) : (bks l).length = l.length * 3 := by
  induction l with
  | nil => rfl
  | cons a t ih => rw [bks_cons]; simp only [List.length_cons]; rw [ih]; omega
theorem bks_get : ∀ (l : List Bk) (i : Nat) (x : Bk), l[i]? = some x → (bks l)[i * 3]? = some (.string x.loc) ∧ (bks l)[i * 3 + 1]? = some (.int .i64 x.par) ∧ (bks l)[i * 3 + 2]? = some (.slice x.A x.n x.cap)
  | a :: t, 0, x, h => by
    obtain rfl : a = x := by simpa using h
    exact ⟨rfl, rfl, rfl⟩
  | a :: t, i + 1, x, h => by
    have ih := bks_get t i x (by simpa using h)
    rw [bks_cons, show (i + 1) * 3 = i * 3 + 1 + 1 + 1 by omega]
    simp only [List.getElem?_cons_succ]
    exact ih
theorem bks_one (l : List Bk) : ∀ v ∈ bks l, v.oneCell' = true := by
  intro v hv
  unfold bks at hv
  obtain ⟨u, hu, hx⟩ := List.mem_flatMap.1 hv
  simp [bkCells] at hx
  rcases hx with rfl | rfl | rfl <;> rfl
end Gno
namespace Go.Proofs.YtbbbeldbhlehnaaGreatDoor
open Go.RowKit Gno
theorem infoBook : (Tryz.prog.info? 43).map (fun i => (i.zero, i.size, i.bytes)) = some (some (.agg #[.string ⟨#[]⟩, .int .i64 0, .slice none 0 0]), 3, 48) := by kernel_rfl
theorem bks_cells {w : World} {B n : Nat} {ad : Addr} {l : List Bk} (h : BooksAt w B (some ad) n l) : ∀ j v, (bks l)[j]? = some v → w.cell? (ad.add j) = some v := by
  intro j v hj
  have hjl : j < l.length * 3 := by have := (List.getElem?_eq_some_iff.1 hj).1; rwa [bks_len] at this
  obtain ⟨b, o, hA, hbB, hc⟩ := h.2.2 (by rw [← h.1]; omega)
  injection hA with hA
  subst hA
  obtain ⟨x, hx⟩ : ∃ x, l[j / 3]? = some x := ⟨_, List.getElem?_eq_getElem (by omega)⟩
  obtain ⟨g0, g1, g2⟩ := bks_get l (j / 3) x hx
  obtain ⟨⟨c0, c1, c2⟩, _⟩ := hc _ x hx
  rw [addP]
  have hm : j = j / 3 * 3 ∨ j = j / 3 * 3 + 1 ∨ j = j / 3 * 3 + 2 := by omega
  rcases hm with hm | hm | hm
  · rw [hm, g0] at hj; rw [hm, c0, hj]
  · rw [hm, g1] at hj; rw [hm, show o + (j / 3 * 3 + 1) = o + j / 3 * 3 + 1 by omega, c1, hj]
  · rw [hm, g2] at hj; rw [hm, show o + (j / 3 * 3 + 2) = o + j / 3 * 3 + 2 by omega, c2, hj]
/-- an own row of books is a slice of books, where the pairs of each lie well. -/
theorem books_own {w : World} {B g cap n : Nat} {l : List Bk} (h : w.ownsRow B 43 3 (.slice (some ⟨g, 0, none⟩) n cap) n (bks l)) (hn : n ≤ maxLen) (hs : ∀ k ∈ l, k.loc.size ≤ maxLen ∧ PairsAt w w.heap.size k.A k.n k.ps) :
    BooksAt w w.heap.size (some ⟨g, 0, none⟩) n l := by
  have hl : l.length = n := by have := h.1; rw [bks_len] at this; omega
  refine ⟨hl, hn, fun _ => ⟨g, 0, rfl, (h.lt g rfl).2, fun i x hx => ?_⟩⟩
  obtain ⟨g0, g1, g2⟩ := bks_get l i x hx
  have c0 := own_cellU h g0
  have c1 := own_cellU h g1
  have c2 := own_cellU h g2
  rw [Nat.zero_add]
  exact ⟨⟨c0, c1, c2⟩, hs x (List.mem_of_getElem? hx)⟩
theorem books_all {w : World} {B n : Nat} {A : Option Addr} {l : List Bk} (h : BooksAt w B A n l) : ∀ k ∈ l, k.loc.size ≤ maxLen ∧ PairsAt w B k.A k.n k.ps := fun k hk => by
  obtain ⟨i, hi⟩ := List.getElem?_of_mem hk
  obtain ⟨b, o, _, _, hc⟩ := h.2.2 (by rw [← h.1]; have := (List.getElem?_eq_some_iff.1 hi).1; omega)
  exact (hc i k hi).2
end Go.Proofs.YtbbbeldbhlehnaaGreatDoor
