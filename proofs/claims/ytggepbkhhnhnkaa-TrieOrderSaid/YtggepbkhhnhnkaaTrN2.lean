/- Tries, plain: their words' order. -/
import Derived.Test.YtggepbkhhnhnkaaTrM2
set_option linter.unusedVariables false
set_option linter.unusedSimpArgs false
namespace Gno
open Go Go.RowKit Go.Proofs.Ytggepbkhhnhnkaa
theorem swap_mem {l : List ByteArray} {a b : Nat} {qa qb : ByteArray} (ha : l[a]? = some qa) (hb : l[b]? = some qb) (x : ByteArray) : x ∈ (l.set a qb).set b qa ↔ x ∈ l := by
  have hal := (List.getElem?_eq_some_iff.1 ha).1
  have hbl := (List.getElem?_eq_some_iff.1 hb).1
  constructor
  · intro h
    rcases List.mem_or_eq_of_mem_set h with h | h
    · rcases List.mem_or_eq_of_mem_set h with h | h
      · exact h
      · rw [h]; exact List.mem_of_getElem? hb
    · rw [h]; exact List.mem_of_getElem? ha
  · intro h
    obtain ⟨i, hi⟩ := List.getElem?_of_mem h
    have hB : ((l.set a qb).set b qa)[b]? = some qa := List.getElem?_set_self (by rw [List.length_set]; exact hbl)
    by_cases h1 : i = a
    · subst h1
      rw [ha] at hi
      injection hi with hi
      rw [← hi]; exact List.mem_of_getElem? hB
    · by_cases h2 : i = b
      · subst h2
        rw [hb] at hi
        injection hi with hi
        subst hi
        have hA : ((l.set a qb).set i qa)[a]? = some qb := by rw [List.getElem?_set_ne h1, List.getElem?_set_self hal]
        exact List.mem_of_getElem? hA
      · have hI : ((l.set a qb).set b qa)[i]? = some x := by rw [List.getElem?_set_ne (fun e => h2 e.symm), List.getElem?_set_ne (fun e => h1 e.symm)]; exact hi
        exact List.mem_of_getElem? hI
theorem words_same {l m : List ByteArray} (hl : m.length = l.length) (hm : ∀ x, x ∈ m ↔ x ∈ l) (hw : wordsE l = 0) : wordsE m = 0 := by
  obtain ⟨h1, h2⟩ := words_ok hw
  unfold wordsE
  rw [if_neg (by omega), if_neg]
  rw [Bool.not_eq_true, List.any_eq_false]
  intro x hx
  have := h2 x ((hm x).1 hx)
  unfold wordBad
  simp
  exact ⟨fun e => by rw [e] at this; simp at this, this.2⟩
theorem bsL_same {l m : List ByteArray} (hm : ∀ x, x ∈ m ↔ x ∈ l) (q : List Nat) : q ∈ bsL m ↔ q ∈ bsL l := by
  rw [bsL_mem, bsL_mem]
  exact ⟨fun ⟨x, h1, h2⟩ => ⟨x, (hm x).1 h1, h2⟩, fun ⟨x, h1, h2⟩ => ⟨x, (hm x).2 h1, h2⟩⟩
theorem found_same {l m : List ByteArray} (hm : ∀ x, x ∈ m ↔ x ∈ l) (s : ByteArray) : decide (0 ≤ ixF (bsL m) (bs s)) = decide (0 ≤ ixF (bsL l) (bs s)) := by
  rw [decide_eq_decide, ixF_mem, ixF_mem]
  exact bsL_same hm _
theorem long_same {l m : List ByteArray} (hm : ∀ x, x ∈ m ↔ x ∈ l) (s : ByteArray) : lgN (buildL (bsL m)) (bs s) s.size = lgN (buildL (bsL l)) (bs s) s.size := by
  have hf : ∀ q, 0 ≤ findK (buildL (bsL m)) q ↔ 0 ≤ findK (buildL (bsL l)) q := fun q => by rw [buildL_find, buildL_find, ixF_mem, ixF_mem]; exact bsL_same hm q
  obtain ⟨a1, a2, a3⟩ := lgN_spec (buildL (bsL m)) (bs s) s.size
  obtain ⟨b1, b2, b3⟩ := lgN_spec (buildL (bsL l)) (bs s) s.size
  apply Nat.le_antisymm
  · rcases a2 with a2 | a2
    · omega
    · exact b3 _ a1 ((hf _).1 a2)
  · rcases b2 with b2 | b2
    · omega
    · exact a3 _ b1 ((hf _).2 b2)
theorem nd_le : ∀ (A B : List (List Nat)), (∀ (i j : Nat) s, A[i]? = some s → A[j]? = some s → i = j) → (∀ x ∈ A, x ∈ B) → A.length ≤ B.length
  | [], B, _, _ => Nat.zero_le _
  | a :: r, B, hn, hs => by
    have ha : a ∈ B := hs a List.mem_cons_self
    have hr : a ∉ r := fun h => by
      obtain ⟨i, hi⟩ := List.getElem?_of_mem h
      have := hn 0 (i + 1) a rfl (by simpa using hi)
      omega
    have ih := nd_le r (B.erase a) (fun i j s h1 h2 => by have := hn (i + 1) (j + 1) s (by simpa using h1) (by simpa using h2); omega) (fun x hx => by
      have hne : x ≠ a := fun e => hr (e ▸ hx)
      exact (List.mem_erase_of_ne hne).2 (hs x (List.mem_cons_of_mem _ hx)))
    have hl := List.length_erase_of_mem ha
    have hp := List.length_pos_of_mem ha
    simp only [List.length_cons]
    omega
theorem len_same {l m : List ByteArray} (hm : ∀ x, x ∈ m ↔ x ∈ l) : (buildL (bsL m)).length = (buildL (bsL l)).length := by
  obtain ⟨P, h1, h2, _⟩ := buildL_inv (bsL m)
  obtain ⟨Q, g1, g2, _⟩ := buildL_inv (bsL l)
  rw [← h1.len, ← g1.len]
  have hq : ∀ x, x ∈ P ↔ x ∈ Q := fun x => by
    rw [h2, g2]
    exact ⟨fun h => h.imp id (fun ⟨w, a, b⟩ => ⟨w, (bsL_same hm w).1 a, b⟩), fun h => h.imp id (fun ⟨w, a, b⟩ => ⟨w, (bsL_same hm w).2 a, b⟩)⟩
  exact Nat.le_antisymm (nd_le P Q h1.nodup (fun x h => (hq x).1 h)) (nd_le Q P g1.nodup (fun x h => (hq x).2 h))
end Gno
