/- Plain: what is asked of all of a list, one behind the other; the order of texts; books' errors. -/
import Derived.Test.YtlmphmfadikdpaaTwice
set_option linter.unusedVariables false
namespace Gno
open Go
/-- is one of the first n asked so? -/
def anyTo (q : Nat → Bool) : Nat → Bool
  | 0 => false
  | i + 1 => anyTo q i || q i
theorem anyTo_mono {q : Nat → Bool} {i : Nat} (h : anyTo q i = true) : ∀ d, anyTo q (i + d) = true
  | 0 => h
  | d + 1 => by
    show anyTo q (i + d + 1) = true
    rw [anyTo, anyTo_mono h d]; rfl
theorem anyTo_yes {q : Nat → Bool} {i n : Nat} (h : i < n) (hq : q i = true) : anyTo q n = true := by
  have h1 : anyTo q (i + 1) = true := by rw [anyTo, hq]; simp
  have := anyTo_mono h1 (n - (i + 1))
  rw [show i + 1 + (n - (i + 1)) = n by omega] at this
  exact this
theorem anyTo_no {q : Nat → Bool} {i : Nat} (h : anyTo q i = false) (hq : q i = false) : anyTo q (i + 1) = false := by
  rw [anyTo, h, hq]; rfl
theorem anyTo_all {q : Nat → Bool} {n : Nat} : anyTo q n = false ↔ ∀ i, i < n → q i = false := by
  induction n with
  | zero => exact ⟨fun _ i h => by omega, fun _ => rfl⟩
  | succ n ih =>
    rw [anyTo, Bool.or_eq_false_iff, ih]
    constructor
    · rintro ⟨a, b⟩ i h
      by_cases e : i = n
      · rw [e]; exact b
      · exact a i (by omega)
    · intro h
      exact ⟨fun i hi => h i (by omega), h n (by omega)⟩
theorem anyTo_iff {q : Nat → Bool} {n : Nat} : anyTo q n = true ↔ ∃ i, i < n ∧ q i = true := by
  constructor
  · intro h
    have h1 : ¬ (∀ i, i < n → q i = false) := fun k => by rw [anyTo_all.2 k] at h; cases h
    false_or_by_contra
    rename_i hn
    exact h1 fun i hi => by
      cases e : q i
      · rfl
      · exact absurd ⟨i, hi, e⟩ hn
  · rintro ⟨i, h, hq⟩; exact anyTo_yes h hq
/-- p of the i-th one. -/
def atI {α : Type} (p : Nat → α → Bool) (l : List α) (i : Nat) : Bool := match l[i]? with | some x => p i x | none => false
def anyI {α : Type} (p : Nat → α → Bool) (l : List α) : Bool := anyTo (atI p l) l.length
theorem atI_eq {α : Type} {p : Nat → α → Bool} {l : List α} {i : Nat} {x : α} (h : l[i]? = some x) : atI p l i = p i x := by unfold atI; rw [h]
theorem anyI_iff {α : Type} {p : Nat → α → Bool} {l : List α} : anyI p l = true ↔ ∃ i x, l[i]? = some x ∧ p i x = true := by
  unfold anyI
  rw [anyTo_iff]
  constructor
  · rintro ⟨i, h, hq⟩
    rw [atI_eq (List.getElem?_eq_getElem h)] at hq
    exact ⟨i, l[i], List.getElem?_eq_getElem h, hq⟩
  · rintro ⟨i, x, h, hq⟩
    exact ⟨i, (List.getElem?_eq_some_iff.1 h).1, by rw [atI_eq h]; exact hq⟩
theorem anyI_yes {α : Type} {p : Nat → α → Bool} {l : List α} {i : Nat} {x : α} (h : l[i]? = some x) (hp : p i x = true) : anyI p l = true := anyI_iff.2 ⟨i, x, h, hp⟩
theorem anyI_no {α : Type} {p : Nat → α → Bool} {l : List α} {i : Nat} {x : α} (h : l[i]? = some x) (h0 : anyTo (atI p l) i = false) (hp : p i x = false) : anyTo (atI p l) (i + 1) = false :=
  anyTo_no h0 (by rw [atI_eq h]; exact hp)
theorem anyI_end {α : Type} {p : Nat → α → Bool} {l : List α} {i : Nat} (h : ¬ i < l.length) (hi : i ≤ l.length) (h0 : anyTo (atI p l) i = false) : anyI p l = false := by
  have : i = l.length := by omega
  unfold anyI; rw [← this]; exact h0
theorem anyI_any {α : Type} (p : α → Bool) (l : List α) : anyI (fun _ => p) l = l.any p := by
  rw [Bool.eq_iff_iff, anyI_iff, List.any_eq_true]
  constructor
  · rintro ⟨i, x, h, hp⟩; exact ⟨x, List.mem_of_getElem? h, hp⟩
  · rintro ⟨x, h, hp⟩
    obtain ⟨i, hi⟩ := List.getElem?_of_mem h
    exact ⟨i, x, hi, hp⟩

/-- the order of texts. -/
def lessB (a b : ByteArray) : Bool := Op.bytesLess a.toList b.toList
theorem bl_asymm : ∀ x y : List UInt8, Op.bytesLess x y = true → Op.bytesLess y x = false
  | [], [], h => by simp [Op.bytesLess] at h
  | [], _ :: _, _ => by simp [Op.bytesLess]
  | _ :: _, [], h => by simp [Op.bytesLess] at h
  | a :: x, b :: y, h => by
    simp only [Op.bytesLess, Bool.or_eq_true, Bool.and_eq_true, decide_eq_true_eq, beq_iff_eq] at h
    rw [Op.bytesLess, Bool.or_eq_false_iff, Bool.and_eq_false_iff]
    rcases h with h | ⟨rfl, h⟩
    · have h1 : ¬ b < a := by rw [UInt8.lt_iff_toNat_lt] at h ⊢; omega
      refine ⟨by simpa using h1, .inl ?_⟩
      have : b ≠ a := by intro e; rw [e, UInt8.lt_iff_toNat_lt] at h; omega
      simpa using this
    · exact ⟨by simp, .inr (bl_asymm x y h)⟩
theorem bl_total : ∀ x y : List UInt8, (Op.bytesLess x y || x == y) = !Op.bytesLess y x
  | [], [] => by simp [Op.bytesLess]
  | [], _ :: _ => by simp [Op.bytesLess]
  | _ :: _, [] => by simp [Op.bytesLess]
  | a :: x, b :: y => by
    have ih := bl_total x y
    simp only [Op.bytesLess]
    by_cases e : a = b
    · subst e
      have h1 : decide (a < a) = false := by simp
      simp [ih]
    · have e1 : (a == b) = false := by simpa using e
      have e2 : (b == a) = false := by simpa using fun h => e h.symm
      have e3 : (a :: x == b :: y) = false := by simp [e]
      rw [e1, e2, e3]
      simp only [Bool.false_and, Bool.or_false]
      rw [← decide_not]
      congr 1
      rw [UInt8.lt_iff_toNat_lt, UInt8.lt_iff_toNat_lt]
      have : a.toNat ≠ b.toNat := fun h => e (UInt8.toNat_inj.1 h)
      simp; omega
theorem less_or (a b : ByteArray) : (Op.bytesLess a.toList b.toList || a.toList == b.toList) = !lessB b a := bl_total _ _
theorem less_empty (a : ByteArray) : lessB a ⟨#[]⟩ = false := by
  unfold lessB
  rw [ByteArray.toList_eq ⟨#[]⟩]
  show Op.bytesLess a.toList [] = false
  cases a.toList <;> rfl

/-! books -/
def badBook (k : Bk) : Bool := !nameOk k.loc || hasP badPair k.ps
/-- the i-th key isn't behind the one ahead of it. -/
def fallAt (ps : List Pr) (i : Nat) : Bool := match i with
  | 0 => false
  | j + 1 => match ps[j]?, ps[j + 1]? with
    | some a, some b => !lessB a.key b.key
    | _, _ => false
def fallsB (k : Bk) : Bool := anyTo (fallAt k.ps) k.ps.length
def badPar (i : Nat) (k : Bk) : Bool := decide (k.par < -1) || decide ((i : Int) ≤ k.par)
def locs (bs : List Bk) : List ByteArray := bs.map fun k => k.loc
def booksE (bs : List Bk) : Int :=
  if 4 < bs.length then 2 else if anyI (fun _ => manyPairs) bs = true then 2 else if anyI (fun _ => badBook) bs = true then 5 else
  if dup (locs bs) = true then 6 else if anyI (fun _ => fallsB) bs = true then 6 else if anyI badPar bs = true then 3 else 0
theorem booksE_long {bs : List Bk} (h : 4 < bs.length) : booksE bs = 2 := by unfold booksE; rw [if_pos h]
theorem booksE_many {bs : List Bk} (h : ¬ 4 < bs.length) (h1 : anyI (fun _ => manyPairs) bs = true) : booksE bs = 2 := by unfold booksE; rw [if_neg h, if_pos h1]
theorem booksE_name {bs : List Bk} (h : ¬ 4 < bs.length) (h1 : anyI (fun _ => manyPairs) bs = false) (h2 : anyI (fun _ => badBook) bs = true) : booksE bs = 5 := by
  unfold booksE; rw [if_neg h, if_neg (by simp [h1]), if_pos h2]
theorem booksE_dup {bs : List Bk} (h : ¬ 4 < bs.length) (h1 : anyI (fun _ => manyPairs) bs = false) (h2 : anyI (fun _ => badBook) bs = false) (h3 : dup (locs bs) = true) : booksE bs = 6 := by
  unfold booksE; rw [if_neg h, if_neg (by simp [h1]), if_neg (by simp [h2]), if_pos h3]
theorem booksE_fall {bs : List Bk} (h : ¬ 4 < bs.length) (h1 : anyI (fun _ => manyPairs) bs = false) (h2 : anyI (fun _ => badBook) bs = false) (h3 : anyI (fun _ => fallsB) bs = true) : booksE bs = 6 := by
  unfold booksE; rw [if_neg h, if_neg (by simp [h1]), if_neg (by simp [h2])]
  by_cases h4 : dup (locs bs) = true
  · rw [if_pos h4]
  · rw [if_neg h4, if_pos h3]
theorem booksE_par {bs : List Bk} (h : ¬ 4 < bs.length) (h1 : anyI (fun _ => manyPairs) bs = false) (h2 : anyI (fun _ => badBook) bs = false) (h3 : dup (locs bs) = false) (h4 : anyI (fun _ => fallsB) bs = false) (h5 : anyI badPar bs = true) : booksE bs = 3 := by
  unfold booksE; rw [if_neg h, if_neg (by simp [h1]), if_neg (by simp [h2]), if_neg (by simp [h3]), if_neg (by simp [h4]), if_pos h5]
theorem booksE_ok {bs : List Bk} (h : ¬ 4 < bs.length) (h1 : anyI (fun _ => manyPairs) bs = false) (h2 : anyI (fun _ => badBook) bs = false) (h3 : dup (locs bs) = false) (h4 : anyI (fun _ => fallsB) bs = false) (h5 : anyI badPar bs = false) : booksE bs = 0 := by
  unfold booksE; rw [if_neg h, if_neg (by simp [h1]), if_neg (by simp [h2]), if_neg (by simp [h3]), if_neg (by simp [h4]), if_neg (by simp [h5])]
theorem booksE_zero {bs : List Bk} (h : booksE bs = 0) : bs.length ≤ 4 ∧ anyI (fun _ => manyPairs) bs = false ∧ anyI (fun _ => badBook) bs = false ∧ dup (locs bs) = false ∧ anyI (fun _ => fallsB) bs = false ∧ anyI badPar bs = false := by
  unfold booksE at h
  split at h
  · omega
  split at h
  · omega
  split at h
  · omega
  split at h
  · omega
  split at h
  · omega
  split at h
  · omega
  simp_all
end Gno
