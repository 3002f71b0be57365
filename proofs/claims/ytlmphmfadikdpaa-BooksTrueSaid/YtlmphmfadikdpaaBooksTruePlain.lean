/- Plain: what BooksTrue asks of the books. -/
import Derived.Test.YtlmphmfadikdpaaText
set_option linter.unusedVariables false
namespace Gno
open Go
theorem fst_at {α : Type} {p : α → Bool} : ∀ (l : List α) (k : Int) (i : Nat), (∀ j x, j < i → l[j]? = some x → p x = false) → (∃ x, l[i]? = some x ∧ p x = true) → fst p l k = k + i
  | [], k, i, _, h => by obtain ⟨x, hx, _⟩ := h; simp at hx
  | b :: t, k, 0, _, h => by
    obtain ⟨x, hx, hp⟩ := h
    simp at hx
    subst hx
    unfold fst; rw [if_pos hp]; simp
  | b :: t, k, i + 1, h1, h => by
    have hb : p b = false := h1 0 b (by omega) rfl
    unfold fst
    rw [if_neg (by simp [hb]), fst_at t (k + 1) i (fun j x hj hx => h1 (j + 1) x (by omega) (by simpa using hx)) (by simpa using h)]
    simp; omega
/-- a locale's book is the one that bears it. -/
theorem bookN_at {bs : List Bk} (hd : dup (locs bs) = false) {i : Nat} {b : Bk} (hb : bs[i]? = some b) : bookN bs b.loc = i := by
  unfold bookN
  rw [fst_at bs 0 i ?_ ⟨b, hb, (same_iff _ _).2 rfl⟩]
  · omega
  · intro j x hj hx
    cases hs : isBook b.loc x
    · rfl
    · have h1 : (locs bs)[i]? = some b.loc := by simp [locs, hb]
      have hxe : x.loc = b.loc := (same_iff _ _).1 hs
      have h2 : amongTo (locs bs) b.loc i = true := by
        unfold amongTo
        rw [List.any_eq_true]
        refine ⟨x.loc, ?_, (same_iff _ _).2 hxe.symm⟩
        have : (locs bs)[j]? = some x.loc := by simp [locs, hx]
        exact List.mem_of_getElem? (i := j) (by rw [List.getElem?_take_of_lt hj]; exact this)
      rw [dup_yes h1 (Nat.le_refl _) h2] at hd; cases hd
theorem inPairs_ne {key : ByteArray} {r : ByteArray × Bool} (hr : r.2 = !r.1.toList.isEmpty) : ∀ l : List Pr, (inPairs key r l).2 = !(inPairs key r l).1.toList.isEmpty
  | [] => hr
  | p :: t => by
    unfold inPairs
    split
    · rfl
    · exact inPairs_ne hr t
theorem noText_ne : (false : Bool) = !noText.toList.isEmpty := by
  unfold noText
  rw [ByteArray.toList_eq]; rfl
theorem lookN_ne (bs : List Bk) (key : ByteArray) : ∀ (f : Nat) (k : Int), (lookN bs key f k).2 = !(lookN bs key f k).1.toList.isEmpty
  | 0, k => noText_ne
  | f + 1, k => by
    unfold lookN
    split
    · exact noText_ne
    · cases bs[k.toNat]? with
      | none => exact noText_ne
      | some b => exact inPairs_ne (lookN_ne bs key f b.par) b.ps
theorem lookB_ne (bs : List Bk) (key : ByteArray) (k : Int) : (lookB bs key k).2 = !(lookB bs key k).1.toList.isEmpty := lookN_ne bs key _ k
/-- none of the first i has the key. -/
def noKeyTo (key : ByteArray) (ps : List Pr) (i : Nat) : Prop := ∀ r, inPairs key r (ps.drop i) = inPairs key r ps
theorem noKey_step {key : ByteArray} {ps : List Pr} {i : Nat} {p : Pr} (h : noKeyTo key ps i) (hp : ps[i]? = some p) (hk : isKey key p = false) : noKeyTo key ps (i + 1) :=
  fun r => ((inPairs_drop (r := r) hp).2 hk).symm.trans (h r)
theorem noKey_hit {key : ByteArray} {ps : List Pr} {i : Nat} {p : Pr} (h : noKeyTo key ps i) (hp : ps[i]? = some p) (hk : isKey key p = true) (r : ByteArray × Bool) : (inPairs key r ps).1 = p.text :=
  by rw [← h r, (inPairs_drop (r := r) hp).1 hk]
theorem noKey_end {key : ByteArray} {ps : List Pr} {i : Nat} (h : noKeyTo key ps i) (hi : ¬ i < ps.length) (r : ByteArray × Bool) : inPairs key r ps = r := by
  rw [← h r, inPairs_end hi]
/-- what Text tells of right books, of the locale of the i-th one. -/
theorem text_at {bs : List Bk} {key : ByteArray} (h : booksE bs = 0) {i : Nat} {b : Bk} (hb : bs[i]? = some b) :
    textS bs b.loc key = (lookB bs key i).1 ∧ textB bs b.loc key = (lookB bs key i).2 ∧ textE bs b.loc key = 0 ∧ lookB bs key i = inPairs key (lookB bs key b.par) b.ps := by
  have hd := (booksE_zero h).2.2.2.1
  have hN := bookN_at hd hb
  have ht := text_is (loc := b.loc) (key := key) h (by rw [hN]; omega)
  rw [hN] at ht
  exact ⟨ht.1, ht.2.1, ht.2.2, look_at (parOk_of h) (k := (i : Int)) (by omega) (by simpa using hb)⟩
end Gno
