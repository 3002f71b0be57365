/- Parts of a proof, laid together. -/
import Derived.StillTailTactics
import Derived.Deep.RegionHeld3
import Derived.Test.YtbbbeldbhlehnaaGreatDoorMUBkT10
set_option linter.unusedSimpArgs false
set_option linter.unusedVariables false
/-! Tries: the reference's Find and Longest. -/
section
set_option maxRecDepth 100000
set_option linter.unusedVariables false
set_option linter.unusedSimpArgs false
namespace Gno
open Go
/-- a text's bytes as numbers. -/
def bs (s : ByteArray) : List Nat := s.data.toList.map (fun c => c.toNat)
theorem bs_len (s : ByteArray) : (bs s).length = s.size := by unfold bs; rw [List.length_map, Array.length_toList]; rfl
theorem bs_at (s : ByteArray) (i : Nat) (h : i < s.size) : (bs s)[i]? = some s[i].toNat := by
  unfold bs
  rw [List.getElem?_map]
  have : s.data.toList[i]? = some s[i] := by
    rw [List.getElem?_eq_getElem (by rw [Array.length_toList]; exact h)]; rfl
  rw [this]; rfl
theorem bs_inj {s t : ByteArray} (h : bs s = bs t) : s = t := by
  unfold bs at h
  have h2 : s.data.toList = t.data.toList := List.map_inj_right (fun a b e => UInt8.toNat_inj.1 e) |>.1 h
  have h3 : s.data = t.data := Array.toList_inj.1 h2
  cases s; cases t
  exact congrArg ByteArray.mk h3
theorem bs_take (s : ByteArray) (n : Nat) : bs (s.extract 0 n) = (bs s).take n := by
  unfold bs
  rw [← List.map_take]
  congr 1
  rw [Lib.extract_data, List.drop_zero, Nat.sub_zero]
theorem edOk_get {k len : Int} : ∀ {l : List Eg} {last : Int}, edOk k len last l = true → (∀ e ∈ l, k < e.to ∧ e.to < len ∧ last < (e.c : Int)) ∧ Rise l
  | [], _, _ => ⟨(fun e h => by cases h), List.Pairwise.nil⟩
  | x :: r, last, h => by
    unfold edOk at h
    simp only [Bool.and_eq_true, decide_eq_true_eq] at h
    obtain ⟨⟨⟨h1, h2⟩, h3⟩, h4⟩ := h
    obtain ⟨g1, g2⟩ := edOk_get h4
    refine ⟨fun e he => ?_, List.pairwise_cons.2 ⟨fun e he => ?_, g2⟩⟩
    · rcases List.mem_cons.1 he with rfl | he
      · exact ⟨h1, h2, h3⟩
      · have := g1 e he
        exact ⟨this.1, this.2.1, by omega⟩
    · have := g1 e he
      omega
theorem ndsOk_get {len : Int} : ∀ {t : List Nd} {k i : Nat} {q : Nd}, ndsOk len k t = true → t[i]? = some q → ndOk ((k + i : Nat) : Int) len q = true
  | [], k, i, q, _, h => by simp at h
  | n :: r, k, 0, q, h, hq => by
    obtain rfl : n = q := by simpa using hq
    unfold ndsOk at h
    rw [Bool.and_eq_true] at h
    exact h.1
  | n :: r, k, i + 1, q, h, hq => by
    unfold ndsOk at h
    rw [Bool.and_eq_true] at h
    have := ndsOk_get h.2 (i := i) (by simpa using hq)
    rwa [show k + 1 + i = k + (i + 1) by omega] at this
/-- what a right trie's nodes are. -/
theorem trieOk_get {t : List Nd} (h : trieOk t = true) {k : Nat} {q : Nd} (hq : t[k]? = some q) : -1 ≤ q.word ∧ (∀ e ∈ q.es, (k : Int) < e.to ∧ e.to < t.length) ∧ Rise q.es := by
  unfold trieOk at h
  rw [Bool.and_eq_true] at h
  have h2 := ndsOk_get h.2 hq
  unfold ndOk at h2
  rw [Bool.and_eq_true, decide_eq_true_eq, Nat.zero_add] at h2
  obtain ⟨g1, g2⟩ := edOk_get h2.2
  exact ⟨h2.1, fun e he => ⟨(g1 e he).1, (g1 e he).2.1⟩, g2⟩
theorem trieOk_to {t : List Nd} (h : trieOk t = true) {k : Nat} {q : Nd} (hq : t[k]? = some q) (c : Nat) : edTo q.es c = -1 ∨ ∃ j : Nat, edTo q.es c = (j : Int) ∧ j < t.length := by
  obtain ⟨_, h2, _⟩ := trieOk_get h hq
  rcases edTo_some (l := q.es) (c := c) with ⟨e, h3, h4, h5⟩ | ⟨h3, h4⟩
  · have := h2 e h3
    exact .inr ⟨e.to.toNat, by omega, by omega⟩
  · exact .inl h4
theorem trieOk_pos {t : List Nd} (h : trieOk t = true) : 0 < t.length := by
  cases t with
  | nil => cases h
  | cons a r => simp
theorem findK_at {t : List Nd} {s : List Nat} {a : Nat} {q : Nd} (h : goT t 0 s = (a : Int)) (hq : t[a]? = some q) : findK t s = q.word := by
  unfold findK; rw [h, if_neg (by omega), ndAt_of hq]
end Gno
namespace Go.Proofs.YtbbbeldbhlehnaaGreatDoor
open Go.RowKit Gno
end Go.Proofs.YtbbbeldbhlehnaaGreatDoor
end
/-! Tries: the reference's Longest; are two the same. -/
section
set_option maxRecDepth 100000
set_option linter.unusedVariables false
set_option linter.unusedSimpArgs false
namespace Gno
open Go
def lgK1 (t : List Nd) (s : List Nat) : Nat → Int
  | 0 => -1
  | n + 1 => lgK t s n
def lgN1 (t : List Nd) (s : List Nat) : Nat → Nat
  | 0 => 0
  | n + 1 => lgN t s n
/-- are two tries the same? -/
def edEq : List Eg → List Eg → Bool
  | [], [] => true
  | x :: r, y :: q => (x.c == y.c) && (x.to == y.to) && edEq r q
  | _, _ => false
def ndEq : List Nd → List Nd → Bool
  | [], [] => true
  | x :: r, y :: q => (x.word == y.word) && edEq x.es y.es && ndEq r q
  | _, _ => false
end Gno
namespace Go.Proofs.YtbbbeldbhlehnaaGreatDoor
open Go.RowKit Gno
theorem retO_b {m n : Bool} (h : m = n) : Ending.returned (.bool m) = .returned (.bool n) := by rw [h]
end Go.Proofs.YtbbbeldbhlehnaaGreatDoor
end
