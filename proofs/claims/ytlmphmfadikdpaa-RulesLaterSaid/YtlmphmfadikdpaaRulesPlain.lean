/- Rules: the plain functions. No program in sight. -/
import Derived.Test.YtlmphmfadikdpaaPickPlain
import Derived.Test.YtlmphmfadikdpaaRunes
set_option linter.unusedVariables false
namespace Gno
/-- the numbers of a rule that have bounds of their own. -/
def ruleBasic (fy ty mo a sv : Int) : Bool := decide (1970 ≤ fy ∧ fy ≤ ty ∧ ty ≤ 2029 ∧ (1 ≤ mo ∧ mo ≤ 12) ∧ (0 ≤ a ∧ a ≤ 86400) ∧ (0 ≤ sv ∧ sv ≤ 7200))
theorem ruleBasic_iff (fy ty mo a sv : Int) : ruleBasic fy ty mo a sv = true ↔ 1970 ≤ fy ∧ fy ≤ ty ∧ ty ≤ 2029 ∧ (1 ≤ mo ∧ mo ≤ 12) ∧ (0 ≤ a ∧ a ≤ 86400) ∧ (0 ≤ sv ∧ sv ≤ 7200) := by unfold ruleBasic; rw [decide_eq_true_iff]
def letOk (le : ByteArray) : Bool := decide (le.size ≤ 12) && allLet le
def yearsOk (fy ty mo k wk d : Int) : Prop := ∀ z, fy ≤ z → z ≤ ty → findE z mo k wk d = 0
open Classical in
/-- the answer of Check. -/
noncomputable def ruleE (fy ty mo k wk d a sv : Int) (le : ByteArray) : Int :=
  if ruleBasic fy ty mo a sv = false then 3 else if onE k wk d ≠ 0 then onE k wk d else if letOk le = false then 5 else if yearsOk fy ty mo k wk d then 0 else 4

section
variable {fy ty mo k wk d a sv : Int} {le : ByteArray}
theorem ruleE_basic (h : ruleBasic fy ty mo a sv = false) : ruleE fy ty mo k wk d a sv le = 3 := by unfold ruleE; rw [if_pos h]
theorem ruleE_on (h : ruleBasic fy ty mo a sv = true) (ho : onE k wk d ≠ 0) : ruleE fy ty mo k wk d a sv le = onE k wk d := by
  unfold ruleE; rw [if_neg (by simp [h]), if_pos ho]
theorem ruleE_let (h : ruleBasic fy ty mo a sv = true) (ho : onE k wk d = 0) (hl : letOk le = false) : ruleE fy ty mo k wk d a sv le = 5 := by
  unfold ruleE; rw [if_neg (by simp [h]), if_neg (by omega), if_pos hl]
theorem ruleE_year (h : ruleBasic fy ty mo a sv = true) (ho : onE k wk d = 0) (hl : letOk le = true) {y : Int} (h1 : fy ≤ y) (h2 : y ≤ ty) (h3 : ¬ findE y mo k wk d = 0) : ruleE fy ty mo k wk d a sv le = 4 := by
  unfold ruleE; rw [if_neg (by simp [h]), if_neg (by omega), if_neg (by simp [hl]), if_neg (fun hh => h3 (hh y h1 h2))]
theorem ruleE_ok (h : ruleBasic fy ty mo a sv = true) (ho : onE k wk d = 0) (hl : letOk le = true) (hy : yearsOk fy ty mo k wk d) : ruleE fy ty mo k wk d a sv le = 0 := by
  unfold ruleE; rw [if_neg (by simp [h]), if_neg (by omega), if_neg (by simp [hl]), if_pos hy]
/-- what a right rule is. -/
theorem ruleE_zero (h : ruleE fy ty mo k wk d a sv le = 0) : ruleBasic fy ty mo a sv = true ∧ onE k wk d = 0 ∧ letOk le = true ∧ yearsOk fy ty mo k wk d := by
  unfold ruleE at h
  cases h1 : ruleBasic fy ty mo a sv
  · rw [if_pos h1] at h; omega
  · rw [if_neg (by simp [h1])] at h
    by_cases h2 : onE k wk d ≠ 0
    · rw [if_pos h2] at h; exact absurd h h2
    · rw [if_neg h2] at h
      cases h3 : letOk le
      · rw [if_pos h3] at h; omega
      · rw [if_neg (by simp [h3])] at h
        by_cases h4 : yearsOk fy ty mo k wk d
        · exact ⟨rfl, by omega, rfl, h4⟩
        · rw [if_neg h4] at h; omega
/-- the years ahead of y are right. -/
def yearsTo (fy y mo k wk d : Int) : Prop := ∀ z, fy ≤ z → z < y → findE z mo k wk d = 0
theorem yearsTo_start : yearsTo fy fy mo k wk d := fun z h1 h2 => by omega
theorem yearsTo_step {y : Int} (h : yearsTo fy y mo k wk d) (hy : findE y mo k wk d = 0) : yearsTo fy (y + 1) mo k wk d := fun z h1 h2 => by
  rcases Int.lt_or_le z y with h3 | h3
  · exact h z h1 h3
  · obtain rfl : z = y := by omega
    exact hy
theorem yearsTo_end {y : Int} (h : yearsTo fy y mo k wk d) (hy : ty < y) : yearsOk fy ty mo k wk d := fun z h1 h2 => h z h1 (by omega)
end
end Gno
