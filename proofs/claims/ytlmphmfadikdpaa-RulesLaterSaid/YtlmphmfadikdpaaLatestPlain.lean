/- Which rule has begun last: the plain functions. No program in sight. -/
import Derived.Test.YtlmphmfadikdpaaRl
set_option linter.unusedVariables false
namespace Gno

/-- of the years from lo to hi the last one at which g is not behind t; m is g there. -/
def IsTop (g : Int → Int) (lo hi t m : Int) : Prop := ∃ y, lo ≤ y ∧ y ≤ hi ∧ g y = m ∧ m ≤ t ∧ ∀ z, y < z → z ≤ hi → t < g z
open Classical in
noncomputable def topOf (g : Int → Int) (lo hi t : Int) : Option Int := if h : ∃ m, IsTop g lo hi t m then some h.choose else none
theorem IsTop.uniq {g : Int → Int} {lo hi t m m' : Int} (h : IsTop g lo hi t m) (h' : IsTop g lo hi t m') : m = m' := by
  obtain ⟨y, h1, h2, h3, h4, h5⟩ := h
  obtain ⟨z, k1, k2, k3, k4, k5⟩ := h'
  rcases Int.lt_trichotomy y z with q | q | q
  · have := h5 z q k2; omega
  · subst q; omega
  · have := k5 y q h2; omega
theorem topOf_some {g : Int → Int} {lo hi t m : Int} (h : IsTop g lo hi t m) : topOf g lo hi t = some m := by
  have hx : ∃ m, IsTop g lo hi t m := ⟨m, h⟩
  unfold topOf
  rw [dif_pos hx, hx.choose_spec.uniq h]
theorem topOf_none {g : Int → Int} {lo hi t : Int} (h : ∀ z, lo ≤ z → z ≤ hi → t < g z) : topOf g lo hi t = none := by
  unfold topOf
  rw [dif_neg]
  rintro ⟨m, y, h1, h2, h3, h4, _⟩
  have := h y h1 h2
  omega
/-- one year more. -/
theorem topOf_late {g : Int → Int} {lo hi t : Int} (h : t < g (hi + 1)) : topOf g lo (hi + 1) t = topOf g lo hi t := by
  by_cases hx : ∃ m, IsTop g lo hi t m
  · obtain ⟨m, hm⟩ := hx
    rw [topOf_some hm]
    obtain ⟨y, h1, h2, h3, h4, h5⟩ := hm
    refine topOf_some ⟨y, h1, by omega, h3, h4, fun z q1 q2 => ?_⟩
    rcases Int.lt_or_le hi z with q3 | q3
    · obtain rfl : z = hi + 1 := by omega
      exact h
    · exact h5 z q1 q3
  · have e1 : topOf g lo hi t = none := by unfold topOf; rw [dif_neg hx]
    rw [e1]
    unfold topOf
    rw [dif_neg]
    rintro ⟨m, y, h1, h2, h3, h4, h5⟩
    rcases Int.lt_or_le hi y with q | q
    · obtain rfl : y = hi + 1 := by omega
      omega
    · exact hx ⟨m, y, h1, q, h3, h4, fun z q1 q2 => h5 z q1 (by omega)⟩
theorem topOf_here {g : Int → Int} {lo hi t : Int} (hl : lo ≤ hi) (h : g hi ≤ t) : topOf g lo hi t = some (g hi) :=
  topOf_some ⟨hi, hl, Int.le_refl _, rfl, h, fun z q1 q2 => by omega⟩

/-- one rule more: k its number, o when it has begun last. -/
def lstep (k : Int) (s : Int × Int) (o : Option Int) : Int × Int :=
  match o with
  | none => s
  | some m => if s.1 < 0 ∨ s.2 ≤ m then (k, m) else s
theorem lstep_if (k m : Int) (s : Int × Int) : ((s.1 < 0 ∨ s.2 ≤ m) ∧ lstep k s (some m) = (k, m)) ∨ (¬ (s.1 < 0 ∨ s.2 ≤ m) ∧ lstep k s (some m) = s) := by
  by_cases c : s.1 < 0 ∨ s.2 ≤ m
  · exact .inl ⟨c, by simp only [lstep]; rw [if_pos c]⟩
  · exact .inr ⟨c, by simp only [lstep]; rw [if_neg c]⟩
/-- the reference goes up: a year more, which turns the state. -/
theorem lstep_up_yes (g : Int → Int) (lo hi t k : Int) (s c : Int × Int) (hc : c = lstep k s (topOf g lo hi t)) (hl : lo ≤ hi + 1) (hg : ∀ y, lo ≤ y → y ≤ hi → g y < g (hi + 1))
    (h : g (hi + 1) ≤ t) (hu : c.1 < 0 ∨ c.2 ≤ g (hi + 1)) : lstep k s (topOf g lo (hi + 1) t) = (k, g (hi + 1)) := by
  rw [topOf_here hl h]
  rcases lstep_if k (g (hi + 1)) s with ⟨_, e⟩ | ⟨q, e⟩
  · exact e
  · exfalso
    by_cases hx : ∃ m, IsTop g lo hi t m
    · obtain ⟨m, hm⟩ := hx
      rw [topOf_some hm] at hc
      obtain ⟨y, h1, h2, h3, h4, h5⟩ := hm
      have hlt := hg y h1 h2
      rcases lstep_if k m s with ⟨q2, e2⟩ | ⟨q2, e2⟩
      · exact q (by omega)
      · rw [e2] at hc
        rw [hc] at hu
        exact q hu
    · have e1 : topOf g lo hi t = none := by unfold topOf; rw [dif_neg hx]
      rw [e1] at hc
      simp only [lstep] at hc
      rw [hc] at hu
      exact q hu
/-- .. or does not. -/
theorem lstep_up_no (g : Int → Int) (lo hi t k : Int) (s c : Int × Int) (hc : c = lstep k s (topOf g lo hi t)) (hl : lo ≤ hi + 1) (hg : ∀ y, lo ≤ y → y ≤ hi → g y < g (hi + 1))
    (hu : ¬ (g (hi + 1) ≤ t ∧ (c.1 < 0 ∨ c.2 ≤ g (hi + 1)))) : lstep k s (topOf g lo (hi + 1) t) = c := by
  by_cases h : g (hi + 1) ≤ t
  · rw [topOf_here hl h]
    have hn : ¬ (c.1 < 0 ∨ c.2 ≤ g (hi + 1)) := fun q => hu ⟨h, q⟩
    by_cases hx : ∃ m, IsTop g lo hi t m
    · obtain ⟨m, hm⟩ := hx
      rw [topOf_some hm] at hc
      obtain ⟨y, h1, h2, h3, h4, h5⟩ := hm
      have hlt := hg y h1 h2
      rcases lstep_if k m s with ⟨q2, e2⟩ | ⟨q2, e2⟩
      · rw [e2] at hc
        rw [hc] at hn
        exact absurd (.inr (by simp only; omega)) hn
      · rw [e2] at hc
        rcases lstep_if k (g (hi + 1)) s with ⟨q, e⟩ | ⟨q, e⟩
        · rw [hc] at hn
          exact absurd q hn
        · rw [e, hc]
    · have e1 : topOf g lo hi t = none := by unfold topOf; rw [dif_neg hx]
      rw [e1] at hc
      simp only [lstep] at hc
      rcases lstep_if k (g (hi + 1)) s with ⟨q, e⟩ | ⟨q, e⟩
      · rw [hc] at hn
        exact absurd q hn
      · rw [e, hc]
  · rw [topOf_late (by omega), hc]

/-- when a rule begins in a year. -/
def Rl.g (r : Rl) (std : Int) (y : Int) : Int := beginN y r.mo r.k r.wk r.d r.a std
noncomputable def Rl.e (r : Rl) : Int := ruleE r.fy r.ty r.mo r.k r.wk r.d r.a r.sv r.le
noncomputable def Rl.top (r : Rl) (std t : Int) : Option Int := topOf (r.g std) r.fy r.ty t
/-- which rule has begun last, of the first i; and when. -/
noncomputable def latestTo (rs : List Rl) (std t : Int) : Nat → Int × Int
  | 0 => (-1, 0)
  | i + 1 => match rs[i]? with
    | some r => lstep i (latestTo rs std t i) (r.top std t)
    | none => latestTo rs std t i
noncomputable def latest (rs : List Rl) (std t : Int) : Int × Int := latestTo rs std t rs.length

theorem lstep_bd (k : Int) (s : Int × Int) (o : Option Int) (hk : 0 ≤ k) (h : -1 ≤ s.1 ∧ s.1 < k) : -1 ≤ (lstep k s o).1 ∧ (lstep k s o).1 < k + 1 := by
  unfold lstep
  split
  · omega
  · split
    · simp only; omega
    · omega
theorem latestTo_bd (rs : List Rl) (std t : Int) : ∀ i, -1 ≤ (latestTo rs std t i).1 ∧ (latestTo rs std t i).1 < i
  | 0 => by simp [latestTo]
  | i + 1 => by
    have ih := latestTo_bd rs std t i
    unfold latestTo
    split
    · have := lstep_bd i (latestTo rs std t i) (Rl.top ‹_› std t) (by omega) ih
      omega
    · omega

/-- a right rule begins later from year to year. -/
theorem begin_year {y mo k wk d a std : Int} (h1 : findE y mo k wk d = 0) (h2 : findE (y + 1) mo k wk d = 0) : beginN y mo k wk d a std < beginN (y + 1) mo k wk d a std := by
  have f1 := (isDate_iff _ _ _).1 (found_pos h1)
  have f2 := (isDate_iff _ _ _).1 (found_pos h2)
  have s1 := size_bd y mo f1.2.1.1 f1.2.1.2
  have s2 := size_bd (y + 1) mo f1.2.1.1 f1.2.1.2
  have l1 := lp_01 y
  have l2 := lp_01 (y + 1)
  have b := begin_succ y
  have ha : aheadY y mo ≤ aheadY (y + 1) mo + 1 := by unfold aheadY; split <;> omega
  unfold beginN num
  omega
theorem beginN_lt_nat {mo k wk d a std y : Int} : ∀ n : Nat, (∀ z, y ≤ z → z ≤ y + n + 1 → findE z mo k wk d = 0) → beginN y mo k wk d a std < beginN (y + n + 1) mo k wk d a std
  | 0, h => by
    have := begin_year (a := a) (std := std) (h y (by omega) (by omega)) (h (y + 1) (by omega) (by omega))
    simpa using this
  | n + 1, h => by
    have ih := beginN_lt_nat (a := a) (std := std) n (fun z h1 h2 => h z h1 (by omega))
    have := begin_year (a := a) (std := std) (h (y + n + 1) (by omega) (by omega)) (h (y + n + 1 + 1) (by omega) (by omega))
    rw [show y + ((n + 1 : Nat) : Int) + 1 = y + n + 1 + 1 by omega]
    omega
theorem beginN_lt {mo k wk d a std lo hi y z : Int} (h : ∀ z, lo ≤ z → z ≤ hi → findE z mo k wk d = 0) (h1 : lo ≤ y) (h2 : y < z) (h3 : z ≤ hi) : beginN y mo k wk d a std < beginN z mo k wk d a std := by
  have := beginN_lt_nat (a := a) (std := std) (y := y) (z - y - 1).toNat (fun q q1 q2 => h q (by omega) (by omega))
  rw [show y + ((z - y - 1).toNat : Int) + 1 = z by omega] at this
  exact this
end Gno
