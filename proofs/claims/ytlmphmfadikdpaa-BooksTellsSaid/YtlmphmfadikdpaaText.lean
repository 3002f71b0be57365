/- The walks of books.Text and of the reference's TextOf. -/
import Derived.Test.YtlmphmfadikdpaaCheckB
set_option linter.unusedVariables false
namespace Gno
open Go
theorem fst_range {α : Type} (p : α → Bool) : ∀ (l : List α) (k : Int), 0 ≤ k → fst p l k = -1 ∨ (k ≤ fst p l k ∧ fst p l k < k + l.length)
  | [], k, h => .inl rfl
  | b :: t, k, h => by
    unfold fst
    by_cases q : p b = true
    · rw [if_pos q]; exact .inr ⟨Int.le_refl _, by simp; omega⟩
    · rw [if_neg q]
      rcases fst_range p t (k + 1) (by omega) with e | e
      · exact .inl e
      · exact .inr ⟨by omega, by simp; omega⟩
theorem bookN_range (bs : List Bk) (loc : ByteArray) : -1 ≤ bookN bs loc ∧ (bookN bs loc < bs.length) := by
  unfold bookN
  rcases fst_range (isBook loc) bs 0 (by omega) with e | e <;> omega
theorem parOk_of {bs : List Bk} (h : booksE bs = 0) : parOk bs := by
  have h5 := (booksE_zero h).2.2.2.2.2
  intro i b hb
  cases hp : badPar i b
  · unfold badPar at hp
    rw [Bool.or_eq_false_iff, decide_eq_false_iff_not, decide_eq_false_iff_not] at hp
    omega
  · rw [anyI_yes hb hp] at h5; cases h5
def textS (bs : List Bk) (loc key : ByteArray) : ByteArray := if booksE bs ≠ 0 then noText else if bookN bs loc < 0 then noText else (lookB bs key (bookN bs loc)).1
def textB (bs : List Bk) (loc key : ByteArray) : Bool := if booksE bs ≠ 0 then false else if bookN bs loc < 0 then false else (lookB bs key (bookN bs loc)).2
def textE (bs : List Bk) (loc key : ByteArray) : Int := if booksE bs ≠ 0 then booksE bs else if bookN bs loc < 0 then 4 else 0
theorem text_bad {bs : List Bk} {loc key : ByteArray} (h : booksE bs ≠ 0) : textS bs loc key = ⟨#[]⟩ ∧ textB bs loc key = false ∧ textE bs loc key = booksE bs := by
  unfold textS textB textE; rw [if_pos h, if_pos h, if_pos h]; exact ⟨rfl, rfl, rfl⟩
theorem text_none {bs : List Bk} {loc key : ByteArray} (h : booksE bs = 0) (h2 : bookN bs loc < 0) : textS bs loc key = ⟨#[]⟩ ∧ textB bs loc key = false ∧ textE bs loc key = 4 := by
  have hn : ¬ booksE bs ≠ 0 := fun x => x h
  unfold textS textB textE; rw [if_neg hn, if_neg hn, if_neg hn, if_pos h2, if_pos h2, if_pos h2]; exact ⟨rfl, rfl, rfl⟩
theorem text_is {bs : List Bk} {loc key : ByteArray} (h : booksE bs = 0) (h2 : ¬ bookN bs loc < 0) : textS bs loc key = (lookB bs key (bookN bs loc)).1 ∧ textB bs loc key = (lookB bs key (bookN bs loc)).2 ∧ textE bs loc key = 0 := by
  have hn : ¬ booksE bs ≠ 0 := fun x => x h
  unfold textS textB textE; rw [if_neg hn, if_neg hn, if_neg hn, if_neg h2, if_neg h2, if_neg h2]; exact ⟨rfl, rfl, rfl⟩
end Gno
namespace Go.Proofs.Ytlmphmfadikdpaa
open Go.RowKit Gno
theorem ret_sbi {a a' : ByteArray} {b b' : Bool} {c c' : Int} (h1 : a = a') (h2 : b = b') (h3 : c = c') : Ending.returned (.tuple #[.string a, .bool b, .int .i64 c]) = .returned (.tuple #[.string a', .bool b', .int .i64 c']) := by rw [h1, h2, h3]

set_option maxRecDepth 100000 in
set_option maxHeartbeats 4000000 in
theorem text_any (A : Option Addr) (n cap : Nat) (bs : List Bk) (loc key : ByteArray) (w : World) (hR : BooksAt w w.heap.size A n bs) :
    Calls Try.prog 30 #[.slice A n cap, .string loc, .string key] w fun e w' => e = .returned (.tuple #[.string (textS bs loc key), .bool (textB bs loc key), .int .i64 (textE bs loc key)]) ∧ Below w.heap.size w w' := by
  have HR := Lib.hid hR
  have CK := Lib.hid (checkB_any A n cap bs w hR)
  have BK := Lib.hid (fun w1 (hb : Below w.heap.size w w1) => book_any A n cap bs loc w1 ((HR.out.below hb (Nat.le_refl _)).more hb.size))
  have hlen := hR.1
  by_cases h0 : booksE bs = 0
  · have LK := Lib.hid (fun w1 (hb : Below w.heap.size w w1) => look_any A n cap bs (bookN bs loc) key w1 ((HR.out.below hb (Nat.le_refl _)).more hb.size) (parOk_of h0) (bookN_range bs loc).1 (by have := (bookN_range bs loc).2; omega))
    by_cases h1 : bookN bs loc < 0
    · have HX := Lib.hid (text_none (key := key) h0 h1)
      rw [h0] at CK
      clear hR hlen h0 LK
      go_enter Try.func30, Try.ntmps30
      go_wp2_with (first
        | (go_at_call 33; (with_reducible refine CK.out.mono ?_); rintro e w1 ⟨rfl, hb1⟩)
        | (go_at_call 51; (with_reducible refine (BK.out _ hb1).mono ?_); rintro e w2 ⟨rfl, hb2⟩; have hb3 := hb1.trans (hb2.mono hb1.size); clear hb2))
      go_ret3
      exact ⟨ret_sbi HX.out.1.symm HX.out.2.1.symm HX.out.2.2.symm, hb3⟩
    · have HX := Lib.hid (text_is (key := key) h0 h1)
      rw [h0] at CK
      clear hR hlen h0
      go_enter Try.func30, Try.ntmps30
      go_wp2_with (first
        | (go_at_call 33; (with_reducible refine CK.out.mono ?_); rintro e w1 ⟨rfl, hb1⟩)
        | (go_at_call 51; (with_reducible refine (BK.out _ hb1).mono ?_); rintro e w2 ⟨rfl, hb2⟩; have hb3 := hb1.trans (hb2.mono hb1.size); clear hb2)
        | (go_at_call 52; (with_reducible refine (LK.out _ hb3).mono ?_); rintro e w4 ⟨rfl, hb4⟩; have hb5 := hb3.trans (hb4.mono hb3.size); clear hb4))
      go_ret3
      exact ⟨ret_sbi HX.out.1.symm HX.out.2.1.symm HX.out.2.2.symm, hb5⟩
  · have hb0 : (booksE bs != 0) = true := by simpa using h0
    have HX := Lib.hid (text_bad (loc := loc) (key := key) h0)
    clear hR hlen h0 BK
    go_enter Try.func30, Try.ntmps30
    go_wp2_with (go_at_call 33; (with_reducible refine CK.out.mono ?_); rintro e w1 ⟨rfl, hb1⟩)
    go_ret3
    exact ⟨ret_sbi HX.out.1.symm HX.out.2.1.symm HX.out.2.2.symm, hb1⟩

set_option maxRecDepth 100000 in
set_option maxHeartbeats 4000000 in
theorem textR_any (A : Option Addr) (n cap : Nat) (bs : List Bk) (loc key : ByteArray) (w : World) (hR : BooksAt w w.heap.size A n bs) :
    Calls Try.prog 31 #[.slice A n cap, .string loc, .string key] w fun e w' => e = .returned (.tuple #[.string (textS bs loc key), .bool (textB bs loc key), .int .i64 (textE bs loc key)]) ∧ Below w.heap.size w w' := by
  have HR := Lib.hid hR
  have CK := Lib.hid (checkR_any A n cap bs w hR)
  have BK := Lib.hid (fun w1 (hb : Below w.heap.size w w1) => bookAt_any A n cap bs loc w1 ((HR.out.below hb (Nat.le_refl _)).more hb.size))
  have hlen := hR.1
  by_cases h0 : booksE bs = 0
  · have LK := Lib.hid (fun w1 (hb : Below w.heap.size w w1) => textOf_any A n cap bs (bookN bs loc) key w1 ((HR.out.below hb (Nat.le_refl _)).more hb.size) (parOk_of h0) (bookN_range bs loc).1 (by have := (bookN_range bs loc).2; omega))
    by_cases h1 : bookN bs loc < 0
    · have HX := Lib.hid (text_none (key := key) h0 h1)
      rw [h0] at CK
      clear hR hlen h0 LK
      go_enter Try.func31, Try.ntmps31
      go_wp2_with (first
        | (go_at_call 34; (with_reducible refine CK.out.mono ?_); rintro e w1 ⟨rfl, hb1⟩)
        | (go_at_call 53; (with_reducible refine (BK.out _ hb1).mono ?_); rintro e w2 ⟨rfl, hb2⟩; have hb3 := hb1.trans (hb2.mono hb1.size); clear hb2))
      go_ret3
      exact ⟨ret_sbi HX.out.1.symm HX.out.2.1.symm HX.out.2.2.symm, hb3⟩
    · have HX := Lib.hid (text_is (key := key) h0 h1)
      rw [h0] at CK
      clear hR hlen h0
      go_enter Try.func31, Try.ntmps31
      go_wp2_with (first
        | (go_at_call 34; (with_reducible refine CK.out.mono ?_); rintro e w1 ⟨rfl, hb1⟩)
        | (go_at_call 53; (with_reducible refine (BK.out _ hb1).mono ?_); rintro e w2 ⟨rfl, hb2⟩; have hb3 := hb1.trans (hb2.mono hb1.size); clear hb2)
        | (go_at_call 54; (with_reducible refine (LK.out _ hb3).mono ?_); rintro e w4 ⟨rfl, hb4⟩; have hb5 := hb3.trans (hb4.mono hb3.size); clear hb4))
      go_ret3
      exact ⟨ret_sbi HX.out.1.symm HX.out.2.1.symm HX.out.2.2.symm, hb5⟩
  · have hb0 : (booksE bs != 0) = true := by simpa using h0
    have HX := Lib.hid (text_bad (loc := loc) (key := key) h0)
    clear hR hlen h0 BK
    go_enter Try.func31, Try.ntmps31
    go_wp2_with (go_at_call 34; (with_reducible refine CK.out.mono ?_); rintro e w1 ⟨rfl, hb1⟩)
    go_ret3
    exact ⟨ret_sbi HX.out.1.symm HX.out.2.1.symm HX.out.2.2.symm, hb1⟩
end Go.Proofs.Ytlmphmfadikdpaa
