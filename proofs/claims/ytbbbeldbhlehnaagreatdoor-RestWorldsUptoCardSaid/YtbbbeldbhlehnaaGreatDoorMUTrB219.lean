/- Parts of a proof, laid together. -/
import Derived.Test.YtbbbeldbhlehnaaGreatDoorMUTrB217
import Derived.Test.YtbbbeldbhlehnaaGreatDoorMUTrB215
set_option linter.unusedSimpArgs false
set_option linter.unusedVariables false
section
set_option maxRecDepth 100000
namespace Gno
open Go Go.Proofs.YtbbbeldbhlehnaaGreatDoor
def fndW (sz : Nat) : List (Nat × Int) → Int → Int
 | [], a => a
 | x :: r, a => fndW sz r (if x.1 = sz then x.2 else a)
def bstW : List (Nat × Int) → Int × Nat → Int × Nat
 | [], a => a
 | x :: r, a => bstW r (if 0 ≤ x.2 then (x.2, x.1) else a)
theorem bstW_snoc (x : Nat × Int) : ∀ (l : List (Nat × Int)) (a : Int × Nat), bstW (l ++ [x]) a = if 0 ≤ x.2 then (x.2, x.1) else bstW l a
 | [], a => rfl
 | y :: r, a => by rw [List.cons_append, bstW, bstW_snoc x r, bstW]
theorem far_no {t : List Nd} {s : List Nat} {m : Nat} (h : Far t s m) {i : Nat} (hi : m < i) (hs : m < s.length) : goT t 0 (s.take i) < 0 := by
 have h1 := h.2.2 hs
 have e : s.take i = s.take (m + 1) ++ (s.take i).drop (m + 1) := by
  conv => lhs; rw [← List.take_append_drop (m + 1) (s.take i)]
  rw [List.take_take, Nat.min_eq_left (by omega)]
 rw [e, goT_app, goT_neg t h1]
 exact h1
theorem far_exists {t : List Nd} (s : List Nat) : ∃ m, Far t s m := by
 have key : ∀ n, n ≤ s.length → (∀ i, i ≤ n → 0 ≤ goT t 0 (s.take i)) ∨ ∃ m, m < n ∧ Far t s m := by
  intro n
  induction n with
  | zero =>
    intro _
    refine .inl fun i hi => ?_
    obtain rfl : i = 0 := by omega
    show (0 : Int) ≤ 0
    omega
  | succ n ih =>
    intro hn
    rcases ih (by omega) with h | ⟨m, h1, h2⟩
    ·by_cases hg : 0 ≤ goT t 0 (s.take (n + 1))
     ·refine .inl fun i hi => ?_
      by_cases e : i = n + 1
      ·rw [e]; exact hg
      ·exact h i (by omega)
     ·exact .inr ⟨n, by omega, by omega, h, fun _ => by omega⟩
    ·exact .inr ⟨m, by omega, h2⟩
 rcases key s.length (Nat.le_refl _) with h | ⟨m, _, h⟩
 ·exact ⟨s.length, Nat.le_refl _, h, fun q => absurd q (by omega)⟩
 ·exact ⟨m, h⟩
theorem bstW_range (t : List Nd) (s : List Nat) : ∀ i, bstW ((List.range (i + 1)).map fun i => (i, findK t (s.take i))) (-1, 0) = (lgK t s i, lgN t s i)
 | 0 => by
   rw [seenW_pre, bstW_snoc]
   show (if 0 ≤ findK t (s.take 0) then (findK t (s.take 0), 0) else (-1, 0)) = _
   unfold lgK lgN
   split <;> rfl
 | i + 1 => by
   rw [seenW_pre, bstW_snoc, bstW_range t s i]
   show (if 0 ≤ findK t (s.take (i + 1)) then (findK t (s.take (i + 1)), i + 1) else (lgK t s i, lgN t s i)) = _
   conv => rhs; unfold lgK lgN
   split <;> rfl
theorem lg_far {t : List Nd} {s : List Nat} {m : Nat} (h : Far t s m) : ∀ i, m ≤ i → i ≤ s.length → lgK t s i = lgK t s m ∧ lgN t s i = lgN t s m
 | i, h1, h2 => by
   by_cases e : i = m
   ·rw [e]; exact ⟨rfl, rfl⟩
   ·obtain ⟨j, rfl⟩ : ∃ j, i = j + 1 := ⟨i - 1, by omega⟩
    have hf : ¬ 0 ≤ findK t (s.take (j + 1)) := by
     unfold findK
     rw [if_pos (far_no h (by omega) (by omega))]
     omega
    have ih := lg_far h j (by omega) (by omega)
    constructor
    ·rw [lgK, if_neg hf]; exact ih.1
    ·rw [lgN, if_neg hf]; exact ih.2
theorem bstW_far {t : List Nd} {s : List Nat} {m : Nat} (h : Far t s m) : bstW (seenW t s m) (-1, 0) = (lgK t s s.length, lgN t s s.length) := by
 unfold seenW
 rw [bstW_range, (lg_far h _ h.1 (Nat.le_refl _)).1, (lg_far h _ h.1 (Nat.le_refl _)).2]
end Gno
namespace Go.Proofs.YtbbbeldbhlehnaaGreatDoor
open Go.RowKit Gno Go.Shelf
end Go.Proofs.YtbbbeldbhlehnaaGreatDoor
end
