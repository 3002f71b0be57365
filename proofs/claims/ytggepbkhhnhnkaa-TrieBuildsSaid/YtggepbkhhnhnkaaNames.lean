/- The walks of data.Name's closures, and of HasSuffix at a byte. -/
import Derived.Test.YtggepbkhhnhnkaaLetters2
set_option linter.unusedVariables false
set_option linter.unusedSimpArgs false
namespace Gno
open Go
/-- what may stand in a name. -/
def isNm (n : Nat) : Bool := isLet n || decide (48 ≤ n ∧ n ≤ 57) || decide (n = 47) || decide (n = 95) || decide (n = 43) || decide (n = 45)
def notNm (n : Nat) : Bool := !isNm n
theorem isLet_high (n : Nat) (h : 128 ≤ n) : isLet n = false := by simp [isLet]; omega
theorem notNm_high (r : Nat) (h : 128 ≤ r) : notNm r = true := by simp [notNm, isNm, isLet_high r h]; omega
theorem byte_of (n : Nat) (h : n < 256) : (UInt8.ofNat n).toNat = n := by simp; omega
theorem allLet_first (a : UInt8) (l : List UInt8) (h : isLet a.toNat = false) : allLet ⟨(a :: l).toArray⟩ = false := by
  simp [allLet, h]
theorem valid_low (x : Nat) (h : Utf8.valid (x : Int) = false) : 128 ≤ x := by
  unfold Utf8.valid at h
  simp at h
  omega
theorem allLet_rune (x : Nat) (hx : x ≤ 1114111) : allLet (Utf8.encode (x : Int)) = isLet x := by
  obtain ⟨c, hc⟩ : ∃ c, c = (if Utf8.valid (x : Int) then ((x : Int).toNat) else Utf8.runeError) := ⟨_, rfl⟩
  have hcx : (c = x) ∨ (c = 65533 ∧ 128 ≤ x) := by
    cases hv : Utf8.valid (x : Int)
    · rw [hv] at hc; exact .inr ⟨by rw [hc]; rfl, valid_low x hv⟩
    · rw [hv] at hc; exact .inl (by rw [hc]; simp)
  unfold Utf8.encode
  simp only [← hc]
  by_cases h1 : c < 128
  · rw [if_pos h1]
    have : c = x := by omega
    subst this
    simp only [allLet, List.all_cons, List.all_nil, Bool.and_true]
    rw [byte_of c (by omega)]
  · rw [if_neg h1, isLet_high x (by omega)]
    split
    · exact allLet_first _ _ (isLet_high _ (by rw [byte_of _ (by omega)]; omega))
    · split
      · exact allLet_first _ _ (isLet_high _ (by rw [byte_of _ (by omega)]; omega))
      · exact allLet_first _ _ (isLet_high _ (by rw [byte_of _ (by omega)]; omega))
/-- the last byte. -/
def endsIn (s : ByteArray) (b : Nat) : Bool := decide (1 ≤ s.size ∧ (s.get! (s.size - 1)).toNat = b)
end Gno
namespace Go.Proofs.Ytggepbkhhnhnkaa
open Go.RowKit Gno
end Go.Proofs.Ytggepbkhhnhnkaa
