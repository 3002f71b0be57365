/- The walk of the reference's twice. -/
import Derived.Test.YtggepbkhhnhnkaaFst
set_option linter.unusedVariables false
set_option linter.unusedSimpArgs false
namespace Gno
/-- is the i-th one among the first m? -/
def amongTo (l : List ByteArray) (v : ByteArray) (m : Nat) : Bool := (l.take m).any fun x => same v x
/-- is one of the first i told twice? -/
def dupTo (l : List ByteArray) : Nat → Bool
  | 0 => false
  | i + 1 => dupTo l i || (match l[i]? with | some v => amongTo l v i | none => false)
def dup (l : List ByteArray) : Bool := dupTo l l.length
theorem amongTo_step {l : List ByteArray} {v x : ByteArray} {m : Nat} (h : l[m]? = some x) : amongTo l v (m + 1) = (amongTo l v m || same v x) := by
  have hm : m < l.length := (List.getElem?_eq_some_iff.1 h).1
  have he : l[m] = x := (List.getElem?_eq_some_iff.1 h).2
  unfold amongTo
  rw [List.take_succ_eq_append_getElem hm, List.any_append, he]
  simp
theorem amongTo_mono {l : List ByteArray} {v : ByteArray} {m m' : Nat} (h : amongTo l v m = true) (hm : m ≤ m') : amongTo l v m' = true := by
  unfold amongTo at h ⊢
  rw [List.any_eq_true] at h ⊢
  obtain ⟨x, hx, hp⟩ := h
  exact ⟨x, (List.take_subset_take_left l hm) hx, hp⟩
theorem dupTo_mono {l : List ByteArray} {i : Nat} (h : dupTo l i = true) : ∀ d, dupTo l (i + d) = true
  | 0 => h
  | d + 1 => by
    show dupTo l (i + d + 1) = true
    rw [dupTo, dupTo_mono h d]; rfl
theorem dup_yes {l : List ByteArray} {i m : Nat} {v : ByteArray} (hi : l[i]? = some v) (hm : m ≤ i) (h : amongTo l v m = true) : dup l = true := by
  have hl : i < l.length := (List.getElem?_eq_some_iff.1 hi).1
  have h1 : dupTo l (i + 1) = true := by rw [dupTo, hi]; simp [amongTo_mono h hm]
  have := dupTo_mono h1 (l.length - (i + 1))
  rw [show i + 1 + (l.length - (i + 1)) = l.length by omega] at this
  exact this
theorem dupTo_no {l : List ByteArray} {i : Nat} {v : ByteArray} (hi : l[i]? = some v) (h0 : dupTo l i = false) (h : amongTo l v i = false) : dupTo l (i + 1) = false := by
  rw [dupTo, hi, h0]; simp [h]
end Gno
namespace Go.Proofs.Ytggepbkhhnhnkaa
open Go.RowKit Gno
/-- the texts lie in memory, a cell each. -/
def StrsAt (w : World) (B : Nat) (A : Option Addr) (n : Nat) (l : List ByteArray) : Prop :=
  l.length = n ∧ n ≤ maxLen ∧ (0 < n → ∃ b o, A = some ⟨b, o, none⟩ ∧ b < B ∧ ∀ (i : Nat) s, l[i]? = some s → w.cell? ⟨b, o + i, none⟩ = some (.string s))
theorem StrsAt.below {B B' : Nat} {w w' : World} {A : Option Addr} {n : Nat} {l : List ByteArray} (h : StrsAt w B A n l) (hb : Below B' w w') (hB : B ≤ B') : StrsAt w' B A n l :=
  ⟨h.1, h.2.1, fun hn => by
    obtain ⟨b, o, e, hbB, hc⟩ := h.2.2 hn
    have hl : b < B' := by omega
    exact ⟨b, o, e, hbB, fun i p hi => (hb.cell hl).trans (hc i p hi)⟩⟩
theorem StrsAt.more {B B' : Nat} {w : World} {A : Option Addr} {n : Nat} {l : List ByteArray} (h : StrsAt w B A n l) (hB : B ≤ B') : StrsAt w B' A n l :=
  ⟨h.1, h.2.1, fun hn => by
    obtain ⟨b, o, e, hbB, hc⟩ := h.2.2 hn
    exact ⟨b, o, e, by omega, hc⟩⟩
end Go.Proofs.Ytggepbkhhnhnkaa
