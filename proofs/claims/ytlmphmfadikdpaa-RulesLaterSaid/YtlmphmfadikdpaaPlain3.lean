/- Plain arithmetic: a day on; a year on. No program in sight. -/
import Derived.Test.YtlmphmfadikdpaaPlain2
set_option linter.unusedVariables false
namespace Gno

/-- the next day's date. -/
theorem next_date (n : Int) (h1 : 0 ≤ n) (h2 : n < 21914) :
    yOf n < yOf (n + 1) ∨ (yOf (n + 1) = yOf n ∧ mOf n < mOf (n + 1)) ∨ (yOf (n + 1) = yOf n ∧ mOf (n + 1) = mOf n ∧ dOf (n + 1) = dOf n + 1) := by
  have hy : yOf n ≤ yOf (n + 1) := by unfold yOf; omega
  rcases Int.lt_or_le (yOf n) (yOf (n + 1)) with h | h
  · exact .inl h
  · have e : yOf (n + 1) = yOf n := by omega
    have b1 := yOf_le n
    have b2 := yOf_lt n
    have b3 := yOf_lt (n + 1)
    rw [begin_succ] at b2 b3
    rw [e] at b3
    obtain ⟨m1, m2, m3, m4⟩ := mOfIn_spec (yOf n) (n - begin_ (yOf n)) (by omega) (by omega)
    obtain ⟨k1, k2, k3, k4⟩ := mOfIn_spec (yOf n) (n + 1 - begin_ (yOf n)) (by omega) (by omega)
    have em : mOf n = mOfIn (yOf n) (n - begin_ (yOf n)) := rfl
    have ek : mOf (n + 1) = mOfIn (yOf n) (n + 1 - begin_ (yOf n)) := by unfold mOf; rw [e]
    rw [← em] at m1 m2 m3 m4
    rw [← ek] at k1 k2 k3 k4
    rcases Int.lt_trichotomy (mOf n) (mOf (n + 1)) with h' | h' | h'
    · exact .inr (.inl ⟨e, h'⟩)
    · refine .inr (.inr ⟨e, h'.symm, ?_⟩)
      unfold dOf
      rw [e, ← h']
      omega
    · have := aheadY_mono (yOf n) (mOf (n + 1) + 1) (mOf n) (by omega) (by omega) (by omega)
      omega

/-- a year on the same day. -/
theorem size_year (y m : Int) (h1 : 1 ≤ m) (h2 : m ≤ 12) (h : m ≠ 2) : size (y + 1) m = size y m := by
  rw [size_is _ _ h1 h2, size_is _ _ h1 h2, if_neg h, if_neg h]
theorem year_on (y m d : Int) : num (y + 1) m d - num y m d = 365 + if 2 < m then lp (y + 1) else lp y := by
  unfold num aheadY
  rw [begin_succ]
  split <;> omega
end Gno
