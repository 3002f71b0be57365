/- Parts of a proof, laid together. -/
import Derived.Lib.Replace
import Derived.Lib.LastIndexLaws
import Derived.Test.YtbbbeldbhlehnaaGreatDoorMUNmTl5
set_option linter.unusedSimpArgs false
set_option linter.unusedVariables false
/-! Plain: the city of a name: what lies behind its last slash, a blank for each low line. -/
section
set_option linter.unusedVariables false
set_option linter.unusedSimpArgs false
namespace Gno
open Go
def usB (b : UInt8) : UInt8 := if b = 95 then 32 else b
def cityF : List UInt8 → List UInt8 → List UInt8
  | acc, [] => acc
  | acc, b :: t => if b = 47 then cityF [] t else cityF (acc ++ [usB b]) t
def cityL (l : List UInt8) : List UInt8 := cityF [] l
def cityT (s : ByteArray) : ByteArray := ⟨(cityL s.data.toList).toArray⟩
theorem cityF_no : ∀ (l acc : List UInt8), (∀ b ∈ l, b ≠ 47) → cityF acc l = acc ++ l.map usB
  | [], acc, _ => by simp [cityF]
  | b :: t, acc, h => by
    rw [cityF, if_neg (h b (by simp)), cityF_no t _ (fun c hc => h c (by simp [hc]))]
    simp
theorem cityF_slash : ∀ (l acc m : List UInt8), cityF acc (l ++ 47 :: m) = cityF [] m
  | [], acc, m => by rw [List.nil_append, cityF, if_pos rfl]
  | b :: t, acc, m => by
    rw [List.cons_append, cityF]
    split
    · exact cityF_slash t _ m
    · exact cityF_slash t _ m
theorem rep_one : ∀ s : List UInt8, Lib.replaceK [95] [32] (Lib.count s [95]) s = s.map usB
  | [] => by
    rw [show Lib.count [] [95] = 0 from rfl]; rfl
  | b :: t => by
    have ih := rep_one t
    by_cases h : b = 95
    · subst h
      have hi : Lib.index (95 :: t) [95] = ((0 : Nat) : Int) := by simp [Lib.index]
      rw [Lib.count_cons_eq, Nat.add_comm, Lib.replaceK_hit _ _ _ _ 0 hi]
      simp only [List.take_zero, List.nil_append, List.length_singleton, Nat.zero_add, List.drop_succ_cons, List.drop_zero, List.map_cons]
      rw [ih]
      rfl
    · rw [Lib.count_cons_ne _ _ _ h]
      have hu : usB b = b := by unfold usB; rw [if_neg h]
      cases hc : Lib.count t [95] with
      | zero =>
        rw [hc] at ih
        rw [List.map_cons, hu, ← ih]
        rfl
      | succ k =>
        obtain ⟨i, hi⟩ := Lib.index_of_count (s := t) (old := [95]) (by omega)
        have hi2 : Lib.index (b :: t) [95] = ((i + 1 : Nat) : Int) := by
          have h1 : ([95] : List UInt8).isPrefixOf (b :: t) = false := by
            simp only [List.isPrefixOf, Bool.and_true]
            simpa using fun e : 95 = b => h e.symm
          unfold Lib.index
          rw [h1, hi]
          have : (((i : Nat) : Int) == -1) = false := by rw [beq_eq_false_iff_ne]; omega
          simp [this]
        rw [hc, Lib.replaceK_hit _ _ _ _ i hi] at ih
        rw [Lib.replaceK_hit _ _ _ _ (i + 1) hi2, List.map_cons, hu, ← ih]
        simp only [List.take_succ_cons, List.length_singleton, List.drop_succ_cons, List.cons_append]
theorem rep_all (s : List UInt8) : Lib.replaceAll s [95] [32] = s.map usB := by
  unfold Lib.replaceAll Lib.replace Lib.replaceNum
  rw [if_neg (by decide), if_pos (.inl (by omega))]
  exact rep_one s
theorem occ_slash {s : List UInt8} {j : Nat} : Lib.occAt s [47] j = true ↔ s[j]? = some 47 := by
  unfold Lib.occAt
  cases h : s.drop j with
  | nil =>
    have : s[j]? = none := by rw [List.getElem?_eq_none]; have := List.drop_eq_nil_iff.1 h; omega
    rw [this]; simp [List.isPrefixOf]
  | cons b t =>
    have : s[j]? = some b := by
      have h1 : (s.drop j)[0]? = some b := by rw [h]; rfl
      rwa [List.getElem?_drop, Nat.add_zero] at h1
    rw [this]
    simp only [List.isPrefixOf, Bool.and_true, beq_iff_eq, Option.some.injEq]
    exact eq_comm
/-- as the program tells it. -/
theorem city_prog (l : List UInt8) : Lib.replaceAll (l.drop (Lib.lastIndex l [47] + 1).toNat) [95] [32] = cityL l := by
  rw [rep_all]
  unfold cityL
  have hno : ∀ {m : List UInt8}, (∀ j, j < m.length → m[j]? ≠ some 47) → ∀ b ∈ m, b ≠ 47 := fun {m} h b hb e => by
    obtain ⟨j, hj⟩ := List.getElem?_of_mem hb
    exact h j (List.getElem?_eq_some_iff.1 hj).1 (by rw [hj, e])
  unfold Lib.lastIndex
  split
  · rename_i h0
    have hl1 : 1 ≤ l.length := h0
    have hk : l.length - [(47 : UInt8)].length + 1 = l.length := by show l.length - 1 + 1 = _; omega
    rw [hk]
    rcases Lib.lastOcc_spec l [47] l.length with ⟨e, hn⟩ | ⟨i, hi, e, hc, hn⟩
    · rw [e, show ((-1 : Int) + 1).toNat = 0 from rfl, List.drop_zero, cityF_no l [] (hno fun j hj hq => by
        have := hn j hj
        rw [occ_slash.2 hq] at this; cases this)]
      rfl
    · rw [e, show (((i : Nat) : Int) + 1).toNat = i + 1 by omega]
      have hi47 := occ_slash.1 hc
      have hs : l = l.take i ++ 47 :: l.drop (i + 1) := by
        have h1 := List.take_append_drop i l
        rw [List.drop_eq_getElem_cons hi, (List.getElem?_eq_some_iff.1 hi47).2] at h1
        exact h1.symm
      conv => rhs; rw [hs]
      rw [cityF_slash, cityF_no _ [] (hno fun j hj hq => by
        rw [List.length_drop] at hj
        rw [List.getElem?_drop] at hq
        have := hn (i + 1 + j) (by omega) (by omega)
        rw [occ_slash.2 hq] at this; cases this)]
      rfl
  · rename_i h0
    have : l = [] := List.eq_nil_of_length_eq_zero (by have : ¬ 1 ≤ l.length := h0; omega)
    subst this
    rfl
theorem cityF_len : ∀ (l acc : List UInt8), (cityF acc l).length ≤ acc.length + l.length
  | [], acc => by simp [cityF]
  | b :: t, acc => by
    rw [cityF]
    split
    · have := cityF_len t []; simp at this ⊢; omega
    · have := cityF_len t (acc ++ [usB b]); simp at this ⊢; omega
theorem city_size (s : ByteArray) : (cityT s).size ≤ s.size := by
  have := cityF_len s.data.toList []
  show (cityL s.data.toList).toArray.size ≤ _
  rw [List.size_toArray]
  unfold cityL
  simpa using this
/-- what does not end in a slash has a city that is not empty. -/
theorem cityF_pos : ∀ (l acc : List UInt8), l.getLast? ≠ some 47 → (acc ≠ [] ∨ l ≠ []) → cityF acc l ≠ []
  | [], acc, _, h => by
    rcases h with h | h
    · simpa [cityF] using h
    · exact absurd rfl h
  | [b], acc, hl, _ => by
    have : b ≠ 47 := fun e => hl (by rw [e]; rfl)
    rw [cityF, if_neg this]
    simp [cityF]
  | b :: c :: t, acc, hl, _ => by
    have hl2 : (c :: t).getLast? ≠ some 47 := by simpa [List.getLast?_cons_cons] using hl
    rw [cityF]
    split
    · exact cityF_pos (c :: t) [] hl2 (.inr (by simp))
    · exact cityF_pos (c :: t) _ hl2 (.inr (by simp))
end Gno
end
