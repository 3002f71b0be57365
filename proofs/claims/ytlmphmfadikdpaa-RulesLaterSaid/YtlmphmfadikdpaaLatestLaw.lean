/- What has begun last: the plain law. No program in sight. -/
import Derived.Test.YtlmphmfadikdpaaLatestPlain
set_option linter.unusedVariables false
namespace Gno
/-- all that is known of the state when the first i rules are gone through. -/
def Good (rs : List Rl) (std t : Int) (i : Nat) (c : Int × Int) : Prop :=
  (c.1 < 0 → ∀ (j : Nat) r, j < i → rs[j]? = some r → ∀ y, r.fy ≤ y → y ≤ r.ty → t < r.g std y) ∧
  (0 ≤ c.1 → c.1 < i ∧ c.2 ≤ t ∧ (∃ r, rs[c.1.toNat]? = some r ∧ ∃ y, r.fy ≤ y ∧ y ≤ r.ty ∧ r.g std y = c.2) ∧
    (∀ (j : Nat) r, j < i → rs[j]? = some r → ∀ y, r.fy ≤ y → y ≤ r.ty → r.g std y ≤ t → r.g std y ≤ c.2) ∧
    (∀ (j : Nat) r, c.1 < j → j < i → rs[j]? = some r → ∀ y, r.fy ≤ y → y ≤ r.ty → r.g std y ≤ t → r.g std y < c.2))

/-- of a right rule's years none that has begun begins later than the last one that has. -/
theorem top_max {r : Rl} (hY : yearsOk r.fy r.ty r.mo r.k r.wk r.d) {std t m : Int} (h : IsTop (r.g std) r.fy r.ty t m) : ∀ y, r.fy ≤ y → y ≤ r.ty → r.g std y ≤ t → r.g std y ≤ m := fun y h1 h2 h3 => by
  obtain ⟨z, z1, z2, z3, z4, z5⟩ := h
  rcases Int.lt_trichotomy y z with q | q | q
  · have : r.g std y < r.g std z := beginN_lt (lo := r.fy) (hi := r.ty) hY h1 q z2
    omega
  · subst q; omega
  · have := z5 y q h2; omega
theorem top_dec (r : Rl) (std t : Int) : (∃ m, IsTop (r.g std) r.fy r.ty t m ∧ r.top std t = some m) ∨ ((∀ y, r.fy ≤ y → y ≤ r.ty → t < r.g std y) ∧ r.top std t = none) := by
  by_cases h : ∀ y, r.fy ≤ y → y ≤ r.ty → t < r.g std y
  · exact .inr ⟨h, topOf_none h⟩
  · -- the last such year
    have key : ∀ n : Nat, (∀ z, r.ty - n < z → z ≤ r.ty → t < r.g std z) → (∃ m, IsTop (r.g std) r.fy r.ty t m) ∨ (∀ z, r.ty - n < z → z ≤ r.ty → t < r.g std z) := fun n hn => .inr hn
    have ex : ∃ m, IsTop (r.g std) r.fy r.ty t m := by
      have go : ∀ n : Nat, (∃ m, IsTop (r.g std) r.fy r.ty t m) ∨ (∀ z, r.ty - n < z → r.fy ≤ z → z ≤ r.ty → t < r.g std z) := by
        intro n
        induction n with
        | zero => exact .inr fun z h1 h2 h3 => by omega
        | succ n ih =>
          rcases ih with ih | ih
          · exact .inl ih
          · by_cases hf : r.fy ≤ r.ty - n
            · by_cases hg : r.g std (r.ty - n) ≤ t
              · exact .inl ⟨_, r.ty - n, hf, by omega, rfl, hg, fun z h1 h2 => ih z h1 (by omega) h2⟩
              · refine .inr fun z h1 h2 h3 => ?_
                rcases Int.lt_or_le (r.ty - n) z with q | q
                · exact ih z q h2 h3
                · obtain rfl : z = r.ty - n := by omega
                  omega
            · exact .inr fun z h1 h2 h3 => ih z (by omega) h2 h3
      rcases go (r.ty - r.fy + 1).toNat with hx | hx
      · exact hx
      · exact absurd (fun y h1 h2 => hx y (by omega) h1 h2) h
    obtain ⟨m, hm⟩ := ex
    exact .inl ⟨m, hm, topOf_some hm⟩

theorem latestTo_good (rs : List Rl) (std t : Int) (hE : ∀ r ∈ rs, r.e = 0) : ∀ i, i ≤ rs.length → Good rs std t i (latestTo rs std t i)
  | 0, _ => ⟨fun _ j r hj => absurd hj (by omega), fun h => absurd h (by simp [latestTo])⟩
  | i + 1, hi => by
    have ih := latestTo_good rs std t hE i (by omega)
    have hl : i < rs.length := by omega
    obtain ⟨r, hr⟩ : ∃ r, r = rs[i] := ⟨_, rfl⟩
    have hri : rs[i]? = some r := by rw [hr]; exact List.getElem?_eq_getElem hl
    have hY := (ruleE_zero (hE r (by rw [hr]; exact List.getElem_mem hl))).2.2.2
    have hst : latestTo rs std t (i + 1) = lstep i (latestTo rs std t i) (r.top std t) := by simp only [latestTo, hri]
    obtain ⟨c, hc⟩ : ∃ c, c = latestTo rs std t i := ⟨_, rfl⟩
    rw [hst]
    rw [← hc] at ih ⊢
    have split : ∀ (j : Nat) q, j < i + 1 → rs[j]? = some q → j < i ∨ (j = i ∧ q = r) := fun j q h1 h2 => by
      rcases Nat.lt_or_ge j i with p | p
      · exact .inl p
      · obtain rfl : j = i := by omega
        exact .inr ⟨rfl, by rw [hri] at h2; exact (Option.some.inj h2).symm⟩
    rcases top_dec r std t with ⟨m, hm, ht⟩ | ⟨hn, ht⟩
    · rw [ht]
      have hmax := top_max hY hm
      obtain ⟨z, z1, z2, z3, z4, z5⟩ := hm
      rcases lstep_if (i : Int) m c with ⟨q, e⟩ | ⟨q, e⟩
      · rw [e]
        refine ⟨fun h => by simp only at h; omega, fun _ => ⟨by simp only; omega, z4, ⟨r, by simpa using hri, z, z1, z2, z3⟩, fun j q' h1 h2 y y1 y2 y3 => ?_, fun j q' h0 h1 h2 y y1 y2 y3 => ?_⟩⟩
        · rcases split j q' h1 h2 with p | ⟨rfl, rfl⟩
          · rcases Int.lt_or_le c.1 0 with w | w
            · have := ih.1 w j q' p h2 y y1 y2; omega
            · have h := (ih.2 w).2.2.2.1 j q' p h2 y y1 y2 y3
              simp only
              omega
          · exact hmax y y1 y2 y3
        · simp only at h0; omega
      · rw [e]
        refine ⟨fun h => absurd (.inl h) q, fun h => ?_⟩
        have k := ih.2 h
        refine ⟨by omega, k.2.1, k.2.2.1, fun j q' h1 h2 y y1 y2 y3 => ?_, fun j q' h0 h1 h2 y y1 y2 y3 => ?_⟩
        · rcases split j q' h1 h2 with p | ⟨rfl, rfl⟩
          · exact k.2.2.2.1 j q' p h2 y y1 y2 y3
          · have := hmax y y1 y2 y3; omega
        · rcases split j q' h1 h2 with p | ⟨rfl, rfl⟩
          · exact k.2.2.2.2 j q' h0 p h2 y y1 y2 y3
          · have := hmax y y1 y2 y3; omega
    · rw [ht]
      show Good rs std t (i + 1) c
      refine ⟨fun h j q' h1 h2 y y1 y2 => ?_, fun h => ?_⟩
      · rcases split j q' h1 h2 with p | ⟨rfl, rfl⟩
        · exact ih.1 h j q' p h2 y y1 y2
        · exact hn y y1 y2
      · have k := ih.2 h
        refine ⟨by omega, k.2.1, k.2.2.1, fun j q' h1 h2 y y1 y2 y3 => ?_, fun j q' h0 h1 h2 y y1 y2 y3 => ?_⟩
        · rcases split j q' h1 h2 with p | ⟨rfl, rfl⟩
          · exact k.2.2.2.1 j q' p h2 y y1 y2 y3
          · have := hn y y1 y2; omega
        · rcases split j q' h1 h2 with p | ⟨rfl, rfl⟩
          · exact k.2.2.2.2 j q' h0 p h2 y y1 y2 y3
          · have := hn y y1 y2; omega
theorem latest_good (rs : List Rl) (std t : Int) (hE : ∀ r ∈ rs, r.e = 0) : Good rs std t rs.length (latest rs std t) := latestTo_good rs std t hE _ (Nat.le_refl _)
/-- who asks at the time that was told is told the same. -/
theorem latest_again (rs : List Rl) (std t : Int) (hE : ∀ r ∈ rs, r.e = 0) (h : 0 ≤ (latest rs std t).1) : latest rs std (latest rs std t).2 = latest rs std t := by
  have g1 := (latest_good rs std t hE).2 h
  obtain ⟨a, ha⟩ : ∃ a, a = (latest rs std t).2 := ⟨_, rfl⟩
  rw [← ha] at g1 ⊢
  have g2 := latest_good rs std a hE
  obtain ⟨c, hc⟩ : ∃ c, c = latest rs std a := ⟨_, rfl⟩
  rw [← hc] at g2 ⊢
  obtain ⟨k1, k2, ⟨r, kr, y, y1, y2, y3⟩, k4, k5⟩ := g1
  have hk : (latest rs std t).1.toNat < rs.length := (List.getElem?_eq_some_iff.1 kr).1
  have hc0 : 0 ≤ c.1 := by
    rcases Int.lt_or_le c.1 0 with w | w
    · have := g2.1 w _ r hk kr y y1 y2; omega
    · exact w
  obtain ⟨l1, l2, ⟨q, lq, z, z1, z2, z3⟩, l4, l5⟩ := g2.2 hc0
  have hl : c.1.toNat < rs.length := (List.getElem?_eq_some_iff.1 lq).1
  have e2 : c.2 = a := by
    have := l4 _ r hk kr y y1 y2 (by omega)
    omega
  have e1 : c.1 = (latest rs std t).1 := by
    rcases Int.lt_trichotomy c.1 (latest rs std t).1 with w | w | w
    · have := l5 _ r (by omega) hk kr y y1 y2 (by omega); omega
    · exact w
    · have := k5 _ q (by omega) hl lq z z1 z2 (by omega); omega
  exact Prod.ext e1 (e2.trans ha)
/-- who asks later is not told what began earlier. -/
theorem latest_mono (rs : List Rl) (std s t : Int) (hE : ∀ r ∈ rs, r.e = 0) (hst : s ≤ t) (h : 0 ≤ (latest rs std s).1) : 0 ≤ (latest rs std t).1 ∧ (latest rs std s).2 ≤ (latest rs std t).2 := by
  obtain ⟨k1, k2, ⟨r, kr, y, y1, y2, y3⟩, k4, k5⟩ := (latest_good rs std s hE).2 h
  have g2 := latest_good rs std t hE
  have hk : (latest rs std s).1.toNat < rs.length := (List.getElem?_eq_some_iff.1 kr).1
  have hc0 : 0 ≤ (latest rs std t).1 := by
    rcases Int.lt_or_le (latest rs std t).1 0 with w | w
    · have := g2.1 w _ r hk kr y y1 y2; omega
    · exact w
  refine ⟨hc0, ?_⟩
  have := (g2.2 hc0).2.2.2.1 _ r hk kr y y1 y2 (by omega)
  omega
end Gno
