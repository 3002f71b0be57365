/- Parts of a proof, laid together. -/
import Derived.Lib.TrimU
import Derived.Test.YtbbbeldbhlehnaaGreatMUsesTellsRow0
set_option linter.unusedSimpArgs false
set_option linter.unusedVariables false
/-! Texts by runes and by bytes: a function of the library that looks for a rune, where all runes beyond the first 128 are looked for. No program in sight. -/
section
set_option linter.unusedVariables false
set_option linter.unusedSimpArgs false
namespace Gno
open Go Go.Lib

/-- where the first rune of which p holds begins, from a place on; -1: nowhere. -/
def idxR (p : Nat → Bool) (s : ByteArray) : Nat → Nat → Int
  | 0, _ => -1
  | f + 1, pos => if pos < s.size then (if p (Utf8.decode s pos).1 = true then (pos : Int) else idxR p s f (pos + (Utf8.decode s pos).2)) else -1
theorem idxR_end (p : Nat → Bool) (s : ByteArray) (f pos : Nat) (h : ¬ pos < s.size) : idxR p s f pos = -1 := by cases f <;> simp [idxR, h]
def hasRune (p : Nat → Bool) (s : ByteArray) : Bool := decide (0 ≤ idxR p s s.size 0)

theorem dec_low (n b0 b1 b2 b3 : Nat) (h : b0 < 128) : decodeN n b0 b1 b2 b3 = (b0, 1) := by unfold decodeN; rw [if_pos h]
theorem dec_high (n b0 b1 b2 b3 : Nat) (h : 128 ≤ b0) : 128 ≤ (decodeN n b0 b1 b2 b3).1 := by
  unfold decodeN
  rw [if_neg (by omega)]
  split
  · split
    · simp only; omega
    · simp
  · split
    · split
      · simp only; omega
      · simp
    · split
      · split
        · simp only; omega
        · simp
      · simp

theorem idxR_iff (p : Nat → Bool) (hp : ∀ r, 128 ≤ r → p r = true) (s : ByteArray) : ∀ (f pos : Nat), s.size ≤ pos + f → (0 ≤ idxR p s f pos ↔ ∃ i, pos ≤ i ∧ i < s.size ∧ p (s.get! i).toNat = true)
  | 0, pos, h => by
    constructor
    · intro h'; simp [idxR] at h'
    · rintro ⟨i, h1, h2, _⟩; omega
  | f + 1, pos, h => by
    by_cases hps : pos < s.size
    · simp only [idxR, hps, if_true]
      have hd := decode_at s pos
      by_cases hlo : (s.get! pos).toNat < 128
      · rw [dec_low _ _ _ _ _ hlo] at hd
        rw [hd]
        simp only
        cases hpb : p (s.get! pos).toNat
        · rw [if_neg (by simp)]
          rw [idxR_iff p hp s f (pos + 1) (by omega)]
          constructor
          · rintro ⟨i, h1, h2, h3⟩; exact ⟨i, by omega, h2, h3⟩
          · rintro ⟨i, h1, h2, h3⟩
            refine ⟨i, ?_, h2, h3⟩
            rcases Nat.lt_or_ge pos i with h4 | h4
            · omega
            · have : i = pos := by omega
              rw [this, hpb] at h3
              cases h3
        · rw [if_pos rfl]
          exact ⟨fun _ => ⟨pos, Nat.le_refl _, hps, hpb⟩, fun _ => by omega⟩
      · have hh : 128 ≤ (Utf8.decode s pos).1 := by rw [hd]; exact dec_high _ _ _ _ _ (by omega)
        rw [if_pos (hp _ hh)]
        exact ⟨fun _ => ⟨pos, Nat.le_refl _, hps, hp _ (by omega)⟩, fun _ => by omega⟩
    · rw [idxR_end _ _ _ _ hps]
      constructor
      · intro h'; omega
      · rintro ⟨i, h1, h2, _⟩; omega

theorem get_list (s : ByteArray) (i : Nat) (h : i < s.size) : s.get! i = s.data.toList[i]'(by simpa using h) := by
  obtain ⟨a⟩ := s
  have h' : i < a.size := h
  show a[i]! = a.toList[i]
  rw [getElem!_pos a i h']
  simp

/-- a rune is found just where a byte is. -/
theorem hasRune_any (p : Nat → Bool) (hp : ∀ r, 128 ≤ r → p r = true) (s : ByteArray) : hasRune p s = s.data.toList.any fun b => p b.toNat := by
  rw [Bool.eq_iff_iff, List.any_eq_true]
  unfold hasRune
  rw [decide_eq_true_iff, idxR_iff p hp s s.size 0 (by omega)]
  constructor
  · rintro ⟨i, _, h2, h3⟩
    rw [get_list s i h2] at h3
    exact ⟨_, List.getElem_mem _, h3⟩
  · rintro ⟨b, hb, h⟩
    obtain ⟨i, hi, rfl⟩ := List.getElem_of_mem hb
    have hi' : i < s.size := by simpa using hi
    exact ⟨i, by omega, hi', by rw [get_list s i hi']; exact h⟩

/-- is the number a letter? -/
def isLet (n : Nat) : Bool := decide (65 ≤ n ∧ n ≤ 90) || decide (97 ≤ n ∧ n ≤ 122)
def notLet (n : Nat) : Bool := !isLet n
theorem notLet_high (r : Nat) (h : 128 ≤ r) : notLet r = true := by simp [notLet, isLet]; omega
/-- all letters? -/
def allLet (s : ByteArray) : Bool := s.data.toList.all fun b => isLet b.toNat
theorem hasRune_notLet (s : ByteArray) : hasRune notLet s = !allLet s := by
  rw [hasRune_any _ notLet_high, allLet, List.not_all_eq_any_not]
  rfl
end Gno
end
/-! Rules: the plain functions. No program in sight. -/
section
set_option linter.unusedVariables false
set_option linter.unusedSimpArgs false
namespace Gno
/-- the numbers of a rule that have bounds of their own. -/
def ruleBasic (fy ty mo a sv : Int) : Bool := decide (1970 ≤ fy ∧ fy ≤ ty ∧ ty ≤ 2029 ∧ (1 ≤ mo ∧ mo ≤ 12) ∧ (0 ≤ a ∧ a ≤ 86400) ∧ (0 ≤ sv ∧ sv ≤ 7200))
theorem ruleBasic_iff (fy ty mo a sv : Int) : ruleBasic fy ty mo a sv = true ↔ 1970 ≤ fy ∧ fy ≤ ty ∧ ty ≤ 2029 ∧ (1 ≤ mo ∧ mo ≤ 12) ∧ (0 ≤ a ∧ a ≤ 86400) ∧ (0 ≤ sv ∧ sv ≤ 7200) := by unfold ruleBasic; rw [decide_eq_true_iff]
def letOk (le : ByteArray) : Bool := decide (le.size ≤ 12) && allLet le
def yearsOk (fy ty mo k wk d : Int) : Prop := ∀ z, fy ≤ z → z ≤ ty → findE z mo k wk d = 0
open Classical in
/-- the answer of Check. -/
noncomputable def ruleE (fy ty mo k wk d a sv : Int) (le : ByteArray) : Int :=
  if ruleBasic fy ty mo a sv = false then 3 else if onE k wk d ≠ 0 then onE k wk d else if letOk le = false then 5 else if yearsOk fy ty mo k wk d then 0 else 4

section
variable {fy ty mo k wk d a sv : Int} {le : ByteArray}
theorem ruleE_basic (h : ruleBasic fy ty mo a sv = false) : ruleE fy ty mo k wk d a sv le = 3 := by unfold ruleE; rw [if_pos h]
theorem ruleE_on (h : ruleBasic fy ty mo a sv = true) (ho : onE k wk d ≠ 0) : ruleE fy ty mo k wk d a sv le = onE k wk d := by
  unfold ruleE; rw [if_neg (by simp [h]), if_pos ho]
theorem ruleE_let (h : ruleBasic fy ty mo a sv = true) (ho : onE k wk d = 0) (hl : letOk le = false) : ruleE fy ty mo k wk d a sv le = 5 := by
  unfold ruleE; rw [if_neg (by simp [h]), if_neg (by omega), if_pos hl]
theorem ruleE_year (h : ruleBasic fy ty mo a sv = true) (ho : onE k wk d = 0) (hl : letOk le = true) {y : Int} (h1 : fy ≤ y) (h2 : y ≤ ty) (h3 : ¬ findE y mo k wk d = 0) : ruleE fy ty mo k wk d a sv le = 4 := by
  unfold ruleE; rw [if_neg (by simp [h]), if_neg (by omega), if_neg (by simp [hl]), if_neg (fun hh => h3 (hh y h1 h2))]
theorem ruleE_ok (h : ruleBasic fy ty mo a sv = true) (ho : onE k wk d = 0) (hl : letOk le = true) (hy : yearsOk fy ty mo k wk d) : ruleE fy ty mo k wk d a sv le = 0 := by
  unfold ruleE; rw [if_neg (by simp [h]), if_neg (by omega), if_neg (by simp [hl]), if_pos hy]
/-- what a right rule is. -/
theorem ruleE_zero (h : ruleE fy ty mo k wk d a sv le = 0) : ruleBasic fy ty mo a sv = true ∧ onE k wk d = 0 ∧ letOk le = true ∧ yearsOk fy ty mo k wk d := by
  unfold ruleE at h
  cases h1 : ruleBasic fy ty mo a sv
  · rw [if_pos h1] at h; omega
  · rw [if_neg (by simp [h1])] at h
    by_cases h2 : onE k wk d ≠ 0
    · rw [if_pos h2] at h; exact absurd h h2
    · rw [if_neg h2] at h
      cases h3 : letOk le
      · rw [if_pos h3] at h; omega
      · rw [if_neg (by simp [h3])] at h
        by_cases h4 : yearsOk fy ty mo k wk d
        · exact ⟨rfl, by omega, rfl, h4⟩
        · rw [if_neg h4] at h; omega
/-- the years ahead of y are right. -/
def yearsTo (fy y mo k wk d : Int) : Prop := ∀ z, fy ≤ z → z < y → findE z mo k wk d = 0
theorem yearsTo_start : yearsTo fy fy mo k wk d := fun z h1 h2 => by omega
theorem yearsTo_step {y : Int} (h : yearsTo fy y mo k wk d) (hy : findE y mo k wk d = 0) : yearsTo fy (y + 1) mo k wk d := fun z h1 h2 => by
  rcases Int.lt_or_le z y with h3 | h3
  · exact h z h1 h3
  · obtain rfl : z = y := by omega
    exact hy
theorem yearsTo_end {y : Int} (h : yearsTo fy y mo k wk d) (hy : ty < y) : yearsOk fy ty mo k wk d := fun z h1 h2 => h z h1 (by omega)
end
end Gno
end
