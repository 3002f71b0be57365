/- Plain arithmetic of days of months. No program in sight. -/
import Derived.Test.YtlmphmfadikdpaaPlain3
set_option linter.unusedVariables false
namespace Gno
/-- the answer of Check. -/
def onE (k w d : Int) : Int :=
  if k = 1 then (if w = 0 ∧ 1 ≤ d ∧ d ≤ 31 then 0 else 3)
  else if k = 2 then (if (0 ≤ w ∧ w ≤ 6) ∧ d = 0 then 0 else 3)
  else if k = 3 then (if (0 ≤ w ∧ w ≤ 6) ∧ 1 ≤ d ∧ d ≤ 31 then 0 else 3)
  else 8
/-- the day that is found, of a right On (it may lie behind the month). c: 3 more than the number of the month's first day; s: the month's size. -/
def pickR (k w d c s : Int) : Int :=
  if k = 2 then s - ((c + s) % 7 - w + 7) % 7 else if k = 3 then d + (w - (c + d) % 7 + 7) % 7 else d
def pick1 (y m : Int) : Int := num y m 1 + 3
def isYM (y m : Int) : Bool := isYear y && isMonth m
def findR (y m k w d : Int) : Int := pickR k w d (pick1 y m) (size y m)
def findE (y m k w d : Int) : Int :=
  if onE k w d ≠ 0 then onE k w d else if isYM y m = false then 3 else if size y m < findR y m k w d then 4 else 0
def findN (y m k w d : Int) : Int :=
  if onE k w d ≠ 0 then 0 else if isYM y m = false then 0 else if size y m < findR y m k w d then 0 else findR y m k w d

theorem onE_ok {k w d : Int} (h : onE k w d = 0) : (k = 1 ∧ w = 0 ∧ 1 ≤ d ∧ d ≤ 31) ∨ (k = 2 ∧ (0 ≤ w ∧ w ≤ 6) ∧ d = 0) ∨ (k = 3 ∧ (0 ≤ w ∧ w ≤ 6) ∧ 1 ≤ d ∧ d ≤ 31) := by
  unfold onE at h
  by_cases h1 : k = 1
  · rw [if_pos h1] at h
    split at h
    · exact .inl ⟨h1, by assumption⟩
    · omega
  · rw [if_neg h1] at h
    by_cases h2 : k = 2
    · rw [if_pos h2] at h
      split at h
      · exact .inr (.inl ⟨h2, by assumption⟩)
      · omega
    · rw [if_neg h2] at h
      by_cases h3 : k = 3
      · rw [if_pos h3] at h
        split at h
        · exact .inr (.inr ⟨h3, by assumption⟩)
        · omega
      · rw [if_neg h3] at h
        omega
/-- the last one of a weekday. -/
theorem last_is (w d c s : Int) (h1 : 0 ≤ w) (h2 : w ≤ 6) : s - 6 ≤ pickR 2 w d c s ∧ pickR 2 w d c s ≤ s ∧ (c + pickR 2 w d c s) % 7 = w ∧ ∀ j, pickR 2 w d c s < j → j ≤ s → (c + j) % 7 ≠ w := by
  unfold pickR
  rw [if_pos rfl]
  refine ⟨by omega, by omega, by omega, fun j h3 h4 => by omega⟩
/-- the first one of a weekday from a day on. -/
theorem after_is (w d c s : Int) (h1 : 0 ≤ w) (h2 : w ≤ 6) : d ≤ pickR 3 w d c s ∧ pickR 3 w d c s ≤ d + 6 ∧ (c + pickR 3 w d c s) % 7 = w ∧ ∀ j, d ≤ j → j < pickR 3 w d c s → (c + j) % 7 ≠ w := by
  unfold pickR
  rw [if_neg (by omega), if_pos rfl]
  refine ⟨by omega, by omega, by omega, fun j h3 h4 => by omega⟩
theorem exact_is (w d c s : Int) : pickR 1 w d c s = d := by unfold pickR; rw [if_neg (by omega), if_neg (by omega)]
/-- the number of a day of the month. -/
theorem num_pick (y m j : Int) : num y m j + 4 = pick1 y m + j := by unfold pick1 num; omega
theorem weekOf_pick (y m j : Int) : (num y m j + 4) % 7 = (pick1 y m + j) % 7 := by rw [num_pick]
/-- what the reference has found when the days ahead of j are gone through: by kind. -/
def acc1 (d j f : Int) : Prop := f = if d < j then d else 0
def acc2 (R j f : Int) : Prop := 0 ≤ f ∧ (R < j → f = R)
def acc3 (R j f : Int) : Prop := f = if R < j then R else 0
theorem acc1_set {d j : Int} (h : j = d) : acc1 d (j + 1) j := by unfold acc1; rw [if_pos (by omega)]; exact h
theorem acc1_keep {d j f : Int} (h : acc1 d j f) (hj : ¬ j = d) : acc1 d (j + 1) f := by
  unfold acc1 at h ⊢
  rw [h]
  by_cases h1 : d < j
  · rw [if_pos h1, if_pos (by omega)]
  · rw [if_neg h1, if_neg (by omega)]
theorem acc2_set {w c s j : Int} (h1 : 0 ≤ w) (h2 : w ≤ 6) (hj : 0 ≤ j) (hs : j ≤ s) (hm : (c + j) % 7 = w) : acc2 (pickR 2 w 0 c s) (j + 1) j := by
  obtain ⟨_, _, _, l4⟩ := last_is w 0 c s h1 h2
  refine ⟨hj, fun h => ?_⟩
  rcases Int.lt_or_le (pickR 2 w 0 c s) j with h' | h'
  · exact absurd hm (l4 j h' hs)
  · omega
theorem acc2_keep {w c s j f : Int} (h1 : 0 ≤ w) (h2 : w ≤ 6) (h : acc2 (pickR 2 w 0 c s) j f) (hm : ¬ (c + j) % 7 = w) : acc2 (pickR 2 w 0 c s) (j + 1) f := by
  obtain ⟨_, _, l3, _⟩ := last_is w 0 c s h1 h2
  refine ⟨h.1, fun h' => ?_⟩
  rcases Int.lt_or_le (pickR 2 w 0 c s) j with h'' | h''
  · exact h.2 h''
  · have e : pickR 2 w 0 c s = j := by omega
    rw [e] at l3
    exact absurd l3 hm
theorem acc3_set {w d c s j f : Int} (h1 : 0 ≤ w) (h2 : w ≤ 6) (hd : 1 ≤ d) (h : acc3 (pickR 3 w d c s) j f) (hm : (c + j) % 7 = w) (hj : d ≤ j) (hf : f = 0) : acc3 (pickR 3 w d c s) (j + 1) j := by
  obtain ⟨l1, _, _, l4⟩ := after_is w d c s h1 h2
  unfold acc3 at h ⊢
  by_cases h3 : pickR 3 w d c s < j
  · rw [if_pos h3] at h
    omega
  · by_cases h4 : j < pickR 3 w d c s
    · exact absurd hm (l4 j hj h4)
    · rw [if_pos (by omega)]
      omega
theorem acc3_keep {w d c s j f : Int} (h1 : 0 ≤ w) (h2 : w ≤ 6) (h : acc3 (pickR 3 w d c s) j f) (hk : ¬ ((c + j) % 7 = w ∧ d ≤ j ∧ f = 0)) : acc3 (pickR 3 w d c s) (j + 1) f := by
  obtain ⟨l1, _, l3, _⟩ := after_is w d c s h1 h2
  unfold acc3 at h ⊢
  by_cases h3 : pickR 3 w d c s < j
  · rw [if_pos h3] at h
    rw [if_pos (by omega), h]
  · rw [if_neg h3] at h
    by_cases h4 : pickR 3 w d c s = j
    · rw [h4] at l3 l1
      exact absurd ⟨l3, l1, h⟩ hk
    · rw [if_neg (by omega), h]
end Gno
