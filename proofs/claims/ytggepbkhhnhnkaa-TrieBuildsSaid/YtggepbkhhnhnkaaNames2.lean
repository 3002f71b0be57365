/- The walks of data.Name and of the reference's IsName. -/
import Derived.Test.YtggepbkhhnhnkaaNames
import Derived.Lib.Strings
set_option linter.unusedVariables false
set_option linter.unusedSimpArgs false
namespace Gno
open Go
/-- does it end in this byte? -/
def ends (s : ByteArray) (b : Int) : Bool := decide (1 ≤ s.size) && decide (PlainAid.bt s (s.size - 1) = b)
theorem extract_one (s : ByteArray) (k : Nat) (h : k < s.size) : (s.extract k (k + 1)).data.toList = [s[k]] := by
  rw [← Lib.toList_data, Lib.extract_toList, List.drop_eq_getElem_cons (by simpa using h), show k + 1 - k = 1 by omega]
  rfl
theorem allLet_one (s : ByteArray) (k : Nat) (h : k < s.size) : allLet (s.extract k (k + 1)) = isLet (PlainAid.bt s k).toNat := by
  unfold allLet
  rw [extract_one s k h]
  have := PlainAid.get_bt s k h
  rw [show (PlainAid.bt s k).toNat = (s[k]).toNat by omega]
  simp
theorem ends_yes (s : ByteArray) (h : 1 ≤ s.size) : ((s.extract (s.size - 1) s.size).toList == [47]) = ends s 47 := by
  have e := extract_one s (s.size - 1) (by omega)
  rw [show s.size - 1 + 1 = s.size by omega] at e
  rw [Lib.toList_data, e]
  have b := PlainAid.get_bt s (s.size - 1) (by omega)
  obtain ⟨v, hv⟩ : ∃ v, v = s[s.size - 1] := ⟨_, rfl⟩
  rw [← hv] at b ⊢
  rw [Bool.eq_iff_iff]
  simp only [ends, h, ← b, decide_true, Bool.true_and, decide_eq_true_iff, beq_iff_eq, List.cons.injEq, and_true]
  constructor
  · intro q; rw [q]; rfl
  · intro q; exact UInt8.toNat_inj.1 (by show v.toNat = 47; omega)
theorem ends_no (s : ByteArray) (b : Int) (h : ¬ 1 ≤ s.size) : ends s b = false := by simp [ends, h]
def allNm (s : ByteArray) : Bool := s.data.toList.all fun b => isNm b.toNat
theorem hasRune_notNm (s : ByteArray) : hasRune notNm s = !allNm s := by
  rw [hasRune_any _ notNm_high, allNm, List.not_all_eq_any_not]
  rfl
/-- is it a name? -/
def nameOk (s : ByteArray) : Bool := decide (1 ≤ s.size ∧ s.size ≤ 12) && (allLet (s.extract 0 1) && (!ends s 47 && allNm s))
theorem allNm_no (s : ByteArray) (k : Nat) (h : k < s.size) (hl : isNm (PlainAid.bt s k).toNat = false) : allNm s = false := by
  have := PlainAid.get_bt s k h
  rw [show (PlainAid.bt s k).toNat = (s[k]).toNat by omega] at hl
  unfold allNm
  rw [List.all_eq_false]
  exact ⟨s.data.toList[k]'(by simpa using h), List.getElem_mem _, by rw [show (s.data.toList[k]'(by simpa using h)) = s[k] from rfl, hl]; simp⟩
def nmTo (s : ByteArray) (k : Nat) : Prop := ((s.data.toList.take k).all fun b => isNm b.toNat) = true
theorem nmTo_snoc (s : ByteArray) (k : Nat) (h : k < s.size) (h0 : nmTo s k) (hl : isNm (PlainAid.bt s k).toNat = true) : nmTo s (k + 1) := by
  have := PlainAid.get_bt s k h
  rw [show (PlainAid.bt s k).toNat = (s[k]).toNat by omega] at hl
  unfold nmTo at h0 ⊢
  rw [take_snoc s k h, List.all_append, h0]
  simp [hl]
theorem nmTo_end (s : ByteArray) (k : Nat) (h : ¬ k < s.size) (h0 : nmTo s k) : allNm s = true := by
  unfold nmTo at h0
  rw [List.take_of_length_le (by simp; omega)] at h0
  exact h0
theorem nameOk_size (s : ByteArray) (h : ¬ (1 ≤ s.size ∧ s.size ≤ 12)) : nameOk s = false := by simp [nameOk, h]
theorem nameOk_is (s : ByteArray) (h1 : 1 ≤ s.size) (h2 : s.size ≤ 12) {a b c : Bool} (ha : allLet (s.extract 0 1) = a) (hb : ends s 47 = b) (hc : allNm s = c) : nameOk s = (a && (!b && c)) := by simp [nameOk, h1, h2, ha, hb, hc]
end Gno
namespace Go.Proofs.Ytggepbkhhnhnkaa
open Go.RowKit Gno
end Go.Proofs.Ytggepbkhhnhnkaa
