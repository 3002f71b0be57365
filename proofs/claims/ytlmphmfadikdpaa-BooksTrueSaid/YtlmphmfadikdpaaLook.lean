/- The walks of books.Look and of the reference's textOf. -/
import Derived.Test.YtlmphmfadikdpaaBooks
set_option linter.unusedVariables false
namespace Gno
def isKey (key : ByteArray) (p : Pr) : Bool := same p.key key
def noText : ByteArray := ⟨#[]⟩
/-- what the pairs from the i-th on tell of a key; r: what is told else. -/
def inPairs (key : ByteArray) (r : ByteArray × Bool) : List Pr → ByteArray × Bool
  | [] => r
  | p :: t => if isKey key p = true then (p.text, !p.text.toList.isEmpty) else inPairs key r t
theorem inPairs_drop {key : ByteArray} {r : ByteArray × Bool} {l : List Pr} {i : Nat} {p : Pr} (h : l[i]? = some p) : (isKey key p = true → inPairs key r (l.drop i) = (p.text, !p.text.toList.isEmpty)) ∧ (isKey key p = false → inPairs key r (l.drop i) = inPairs key r (l.drop (i + 1))) := by
  have hi : i < l.length := (List.getElem?_eq_some_iff.1 h).1
  have he : l[i] = p := (List.getElem?_eq_some_iff.1 h).2
  rw [List.drop_eq_getElem_cons hi, he]
  exact ⟨fun q => by rw [inPairs, if_pos q], fun q => by rw [inPairs, if_neg (by simp [q])]⟩
theorem inPairs_end {key : ByteArray} {r : ByteArray × Bool} {l : List Pr} {i : Nat} (h : ¬ i < l.length) : inPairs key r (l.drop i) = r := by
  rw [List.drop_of_length_le (by omega)]; rfl
/-- what the book k tells of a key, or its parent, .. -/
def lookN (bs : List Bk) (key : ByteArray) : Nat → Int → ByteArray × Bool
  | 0, _ => (noText, false)
  | f + 1, k => if k < 0 then (noText, false) else match bs[k.toNat]? with
    | none => (noText, false)
    | some b => inPairs key (lookN bs key f b.par) b.ps
/-- each one's parent is ahead of it. -/
def parOk (bs : List Bk) : Prop := ∀ (i : Nat) b, bs[i]? = some b → -1 ≤ b.par ∧ b.par < i
/-- more steps than needed tell nothing else. -/
theorem lookN_more {bs : List Bk} {key : ByteArray} (h : parOk bs) : ∀ (f g : Nat) (k : Int), -1 ≤ k → k < f → k < g → lookN bs key f k = lookN bs key g k
  | 0, 0, _, _, _, _ => rfl
  | 0, g + 1, k, h0, h1, _ => by
    rw [lookN, lookN, if_pos (by omega)]
  | f + 1, 0, k, h0, _, h2 => by
    rw [lookN, lookN, if_pos (by omega)]
  | f + 1, g + 1, k, h0, h1, h2 => by
    rw [lookN, lookN]
    by_cases hk : k < 0
    · rw [if_pos hk, if_pos hk]
    · rw [if_neg hk, if_neg hk]
      cases hb : bs[k.toNat]? with
      | none => rfl
      | some b =>
        have := h _ b hb
        simp only
        rw [lookN_more h f g b.par this.1 (by omega) (by omega)]
/-- what Look tells. -/
def lookB (bs : List Bk) (key : ByteArray) (k : Int) : ByteArray × Bool := lookN bs key (k + 1).toNat k
theorem look_neg {bs : List Bk} {key : ByteArray} {k : Int} (h : k < 0) : lookB bs key k = (noText, false) := by
  unfold lookB
  rw [show (k + 1).toNat = 0 by omega]; rfl
theorem look_at {bs : List Bk} {key : ByteArray} (h : parOk bs) {k : Int} (h0 : 0 ≤ k) {b : Bk} (hb : bs[k.toNat]? = some b) : lookB bs key k = inPairs key (lookB bs key b.par) b.ps := by
  have hp := h _ b hb
  unfold lookB
  rw [show (k + 1).toNat = k.toNat + 1 by omega, lookN, if_neg (by omega), hb]
  simp only
  rw [lookN_more h k.toNat (b.par + 1).toNat b.par hp.1 (by omega) (by omega)]
end Gno
namespace Go.Proofs.Ytlmphmfadikdpaa
end Go.Proofs.Ytlmphmfadikdpaa
