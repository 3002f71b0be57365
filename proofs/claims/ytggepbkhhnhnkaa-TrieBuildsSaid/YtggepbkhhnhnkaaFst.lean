/- Plain: the first one of which p holds; texts that are one; what is asked of all of a list; the order of texts. -/
import Derived.Test.YtggepbkhhnhnkaaNames3
set_option linter.unusedVariables false
set_option linter.unusedSimpArgs false
namespace Gno
open Go
/-- the number of the first one from which p holds; -1: none. -/
def fst {α : Type} (p : α → Bool) : List α → Int → Int
  | [], _ => -1
  | b :: t, k => if p b = true then k else fst p t (k + 1)
theorem fst_drop {α : Type} {p : α → Bool} {l : List α} {i : Nat} {b : α} (h : l[i]? = some b) : (p b = true → fst p (l.drop i) i = i) ∧ (p b = false → fst p (l.drop i) i = fst p (l.drop (i + 1)) ((i + 1 : Nat) : Int)) := by
  have hi : i < l.length := (List.getElem?_eq_some_iff.1 h).1
  have he : l[i] = b := (List.getElem?_eq_some_iff.1 h).2
  rw [List.drop_eq_getElem_cons hi, he]
  exact ⟨fun q => by rw [fst, if_pos q], fun q => by rw [fst, if_neg (by simp [q])]; rfl⟩
theorem fst_end {α : Type} {p : α → Bool} {l : List α} {i : Nat} (h : ¬ i < l.length) : fst p (l.drop i) i = -1 := by
  rw [List.drop_of_length_le (by omega)]; rfl
def hasP {α : Type} (p : α → Bool) (l : List α) : Bool := decide (0 ≤ fst p l 0)
theorem fst_nn {α : Type} (p : α → Bool) : ∀ (l : List α) (k : Int), 0 ≤ k → (0 ≤ fst p l k ↔ ∃ b ∈ l, p b = true)
  | [], k, h => by simp [fst]
  | b :: t, k, h => by
    unfold fst
    by_cases q : p b = true
    · rw [if_pos q]; exact ⟨fun _ => ⟨b, by simp, q⟩, fun _ => h⟩
    · rw [if_neg q, fst_nn p t (k + 1) (by omega)]
      constructor
      · rintro ⟨c, hc, hp⟩; exact ⟨c, by simp [hc], hp⟩
      · rintro ⟨c, hc, hp⟩
        rcases List.mem_cons.1 hc with rfl | hc
        · exact absurd hp q
        · exact ⟨c, hc, hp⟩
theorem hasP_any {α : Type} (p : α → Bool) (l : List α) : hasP p l = l.any p := by
  rw [Bool.eq_iff_iff, List.any_eq_true, hasP, decide_eq_true_iff, fst_nn p l 0 (by omega)]
/-- are the two texts one? -/
def same (a b : ByteArray) : Bool := a.toList == b.toList
theorem same_iff (a b : ByteArray) : same a b = true ↔ a = b := by
  unfold same
  rw [beq_iff_eq, ByteArray.toList_eq, ByteArray.toList_eq]
  constructor
  · intro h; exact ByteArray.ext (Array.toList_inj.1 h)
  · intro h; rw [h]
theorem same_comm (a b : ByteArray) : same a b = same b a := by
  rw [Bool.eq_iff_iff, same_iff, same_iff]; exact eq_comm
theorem fst_range {α : Type} (p : α → Bool) : ∀ (l : List α) (k : Int), 0 ≤ k → fst p l k = -1 ∨ (k ≤ fst p l k ∧ fst p l k < k + l.length)
  | [], k, h => .inl rfl
  | b :: t, k, h => by
    unfold fst
    by_cases q : p b = true
    · rw [if_pos q]; exact .inr ⟨Int.le_refl _, by simp; omega⟩
    · rw [if_neg q]
      rcases fst_range p t (k + 1) (by omega) with e | e
      · exact .inl e
      · exact .inr ⟨by omega, by simp; omega⟩
theorem fst_at {α : Type} {p : α → Bool} : ∀ (l : List α) (k : Int) (i : Nat), (∀ j x, j < i → l[j]? = some x → p x = false) → (∃ x, l[i]? = some x ∧ p x = true) → fst p l k = k + i
  | [], k, i, _, h => by obtain ⟨x, hx, _⟩ := h; simp at hx
  | b :: t, k, 0, _, h => by
    obtain ⟨x, hx, hp⟩ := h
    simp at hx
    subst hx
    unfold fst; rw [if_pos hp]; simp
  | b :: t, k, i + 1, h1, h => by
    have hb : p b = false := h1 0 b (by omega) rfl
    unfold fst
    rw [if_neg (by simp [hb]), fst_at t (k + 1) i (fun j x hj hx => h1 (j + 1) x (by omega) (by simpa using hx)) (by simpa using h)]
    simp; omega
/-- is one of the first n asked so? -/
def anyTo (q : Nat → Bool) : Nat → Bool
  | 0 => false
  | i + 1 => anyTo q i || q i
theorem anyTo_mono {q : Nat → Bool} {i : Nat} (h : anyTo q i = true) : ∀ d, anyTo q (i + d) = true
  | 0 => h
  | d + 1 => by
    show anyTo q (i + d + 1) = true
    rw [anyTo, anyTo_mono h d]; rfl
theorem anyTo_yes {q : Nat → Bool} {i n : Nat} (h : i < n) (hq : q i = true) : anyTo q n = true := by
  have h1 : anyTo q (i + 1) = true := by rw [anyTo, hq]; simp
  have := anyTo_mono h1 (n - (i + 1))
  rw [show i + 1 + (n - (i + 1)) = n by omega] at this
  exact this
theorem anyTo_no {q : Nat → Bool} {i : Nat} (h : anyTo q i = false) (hq : q i = false) : anyTo q (i + 1) = false := by
  rw [anyTo, h, hq]; rfl
theorem anyTo_all {q : Nat → Bool} {n : Nat} : anyTo q n = false ↔ ∀ i, i < n → q i = false := by
  induction n with
  | zero => exact ⟨fun _ i h => by omega, fun _ => rfl⟩
  | succ n ih =>
    rw [anyTo, Bool.or_eq_false_iff, ih]
    constructor
    · rintro ⟨a, b⟩ i h
      by_cases e : i = n
      · rw [e]; exact b
      · exact a i (by omega)
    · intro h
      exact ⟨fun i hi => h i (by omega), h n (by omega)⟩
theorem anyTo_iff {q : Nat → Bool} {n : Nat} : anyTo q n = true ↔ ∃ i, i < n ∧ q i = true := by
  constructor
  · intro h
    have h1 : ¬ (∀ i, i < n → q i = false) := fun k => by rw [anyTo_all.2 k] at h; cases h
    false_or_by_contra
    rename_i hn
    exact h1 fun i hi => by
      cases e : q i
      · rfl
      · exact absurd ⟨i, hi, e⟩ hn
  · rintro ⟨i, h, hq⟩; exact anyTo_yes h hq
/-- p of the i-th one. -/
def atI {α : Type} (p : Nat → α → Bool) (l : List α) (i : Nat) : Bool := match l[i]? with | some x => p i x | none => false
def anyI {α : Type} (p : Nat → α → Bool) (l : List α) : Bool := anyTo (atI p l) l.length
theorem atI_eq {α : Type} {p : Nat → α → Bool} {l : List α} {i : Nat} {x : α} (h : l[i]? = some x) : atI p l i = p i x := by unfold atI; rw [h]
theorem anyI_iff {α : Type} {p : Nat → α → Bool} {l : List α} : anyI p l = true ↔ ∃ i x, l[i]? = some x ∧ p i x = true := by
  unfold anyI
  rw [anyTo_iff]
  constructor
  · rintro ⟨i, h, hq⟩
    rw [atI_eq (List.getElem?_eq_getElem h)] at hq
    exact ⟨i, l[i], List.getElem?_eq_getElem h, hq⟩
  · rintro ⟨i, x, h, hq⟩
    exact ⟨i, (List.getElem?_eq_some_iff.1 h).1, by rw [atI_eq h]; exact hq⟩
theorem anyI_yes {α : Type} {p : Nat → α → Bool} {l : List α} {i : Nat} {x : α} (h : l[i]? = some x) (hp : p i x = true) : anyI p l = true := anyI_iff.2 ⟨i, x, h, hp⟩
theorem anyI_no {α : Type} {p : Nat → α → Bool} {l : List α} {i : Nat} {x : α} (h : l[i]? = some x) (h0 : anyTo (atI p l) i = false) (hp : p i x = false) : anyTo (atI p l) (i + 1) = false :=
  anyTo_no h0 (by rw [atI_eq h]; exact hp)
theorem anyI_end {α : Type} {p : Nat → α → Bool} {l : List α} {i : Nat} (h : ¬ i < l.length) (hi : i ≤ l.length) (h0 : anyTo (atI p l) i = false) : anyI p l = false := by
  have : i = l.length := by omega
  unfold anyI; rw [← this]; exact h0
theorem anyI_any {α : Type} (p : α → Bool) (l : List α) : anyI (fun _ => p) l = l.any p := by
  rw [Bool.eq_iff_iff, anyI_iff, List.any_eq_true]
  constructor
  · rintro ⟨i, x, h, hp⟩; exact ⟨x, List.mem_of_getElem? h, hp⟩
  · rintro ⟨x, h, hp⟩
    obtain ⟨i, hi⟩ := List.getElem?_of_mem h
    exact ⟨i, x, hi, hp⟩

/-- the order of texts. -/
def lessB (a b : ByteArray) : Bool := Op.bytesLess a.toList b.toList
theorem bl_asymm : ∀ x y : List UInt8, Op.bytesLess x y = true → Op.bytesLess y x = false
  | [], [], h => by simp [Op.bytesLess] at h
  | [], _ :: _, _ => by simp [Op.bytesLess]
  | _ :: _, [], h => by simp [Op.bytesLess] at h
  | a :: x, b :: y, h => by
    simp only [Op.bytesLess, Bool.or_eq_true, Bool.and_eq_true, decide_eq_true_eq, beq_iff_eq] at h
    rw [Op.bytesLess, Bool.or_eq_false_iff, Bool.and_eq_false_iff]
    rcases h with h | ⟨rfl, h⟩
    · have h1 : ¬ b < a := by rw [UInt8.lt_iff_toNat_lt] at h ⊢; omega
      refine ⟨by simpa using h1, .inl ?_⟩
      have : b ≠ a := by intro e; rw [e, UInt8.lt_iff_toNat_lt] at h; omega
      simpa using this
    · exact ⟨by simp, .inr (bl_asymm x y h)⟩
theorem bl_total : ∀ x y : List UInt8, (Op.bytesLess x y || x == y) = !Op.bytesLess y x
  | [], [] => by simp [Op.bytesLess]
  | [], _ :: _ => by simp [Op.bytesLess]
  | _ :: _, [] => by simp [Op.bytesLess]
  | a :: x, b :: y => by
    have ih := bl_total x y
    simp only [Op.bytesLess]
    by_cases e : a = b
    · subst e
      have h1 : decide (a < a) = false := by simp
      simp [ih]
    · have e1 : (a == b) = false := by simpa using e
      have e2 : (b == a) = false := by simpa using fun h => e h.symm
      have e3 : (a :: x == b :: y) = false := by simp [e]
      rw [e1, e2, e3]
      simp only [Bool.false_and, Bool.or_false]
      rw [← decide_not]
      congr 1
      rw [UInt8.lt_iff_toNat_lt, UInt8.lt_iff_toNat_lt]
      have : a.toNat ≠ b.toNat := fun h => e (UInt8.toNat_inj.1 h)
      simp; omega
theorem less_or (a b : ByteArray) : (Op.bytesLess a.toList b.toList || a.toList == b.toList) = !lessB b a := bl_total _ _
theorem less_empty (a : ByteArray) : lessB a ⟨#[]⟩ = false := by
  unfold lessB
  rw [ByteArray.toList_eq ⟨#[]⟩]
  show Op.bytesLess a.toList [] = false
  cases a.toList <;> rfl

theorem take_snoc' {α : Type} {l : List α} {i : Nat} {x : α} (h : l[i]? = some x) : l.take (i + 1) = l.take i ++ [x] := by
  have hi : i < l.length := (List.getElem?_eq_some_iff.1 h).1
  rw [List.take_succ_eq_append_getElem hi, (List.getElem?_eq_some_iff.1 h).2]
theorem hasP_yes {α : Type} {p : α → Bool} {ps : List α} {i : Nat} {x : α} (h : ps[i]? = some x) (hp : p x = true) : hasP p ps = true := by
  rw [hasP_any, List.any_eq_true]; exact ⟨x, List.mem_of_getElem? h, hp⟩
theorem hasP_no {α : Type} {p : α → Bool} {ps : List α} {i : Nat} (h : ¬ i < ps.length) (hi : i ≤ ps.length) (h0 : anyTo (atI (fun _ => p) ps) i = false) : hasP p ps = false := by
  rw [hasP_any, ← anyI_any]; exact anyI_end h hi h0
end Gno
