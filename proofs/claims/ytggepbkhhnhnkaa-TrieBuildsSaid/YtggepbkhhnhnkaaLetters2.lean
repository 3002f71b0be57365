/- The walk of the reference's letters. -/
import Derived.Test.YtggepbkhhnhnkaaLetters
import Derived.PlainAid
set_option linter.unusedVariables false
set_option linter.unusedSimpArgs false
namespace Gno
theorem take_snoc (s : ByteArray) (k : Nat) (h : k < s.size) : s.data.toList.take (k + 1) = s.data.toList.take k ++ [s[k]] := by
  rw [List.take_succ_eq_append_getElem (by simpa using h)]; rfl
theorem allLet_no (s : ByteArray) (k : Nat) (h : k < s.size) (hl : isLet (s[k].toNat) = false) : allLet s = false := by
  unfold allLet
  rw [List.all_eq_false]
  exact ⟨s.data.toList[k]'(by simpa using h), List.getElem_mem _, by rw [show (s.data.toList[k]'(by simpa using h)) = s[k] from rfl, hl]; simp⟩
theorem allLet_snoc (s : ByteArray) (k : Nat) (h : k < s.size) (h0 : ((s.data.toList.take k).all fun b => isLet b.toNat) = true) (hl : isLet (s[k].toNat) = true) : ((s.data.toList.take (k + 1)).all fun b => isLet b.toNat) = true := by
  rw [take_snoc s k h, List.all_append, h0]
  simp [hl]
theorem allLet_end (s : ByteArray) (k : Nat) (h : ¬ k < s.size) (h0 : ((s.data.toList.take k).all fun b => isLet b.toNat) = true) : allLet s = true := by
  rw [List.take_of_length_le (by simp; omega)] at h0
  exact h0
end Gno
namespace Go.Proofs.Ytggepbkhhnhnkaa
open Go.RowKit Gno
end Go.Proofs.Ytggepbkhhnhnkaa
