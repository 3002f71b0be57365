/- Tries: the walk of TrieTrue, whatever the words. -/
import Derived.Test.YtggepbkhhnhnkaaTrX
set_option linter.unusedVariables false
set_option linter.unusedSimpArgs false
namespace Go.Proofs.Ytggepbkhhnhnkaa
open Go.RowKit Gno
set_option maxRecDepth 100000 in
theorem trieTrue_bad (A : Option Addr) (n cap : Nat) (l : List ByteArray) (s : ByteArray) (i : Int) (w : World) (hT : StrsAt w w.heap.size A n l) (hE : wordsE l ≠ 0) :
    Calls Try.prog 5 #[.slice A n cap, .string s, .int .i64 i] w fun e w' => e = .returned (.bool true) ∧ Below w.heap.size w w' := by
  obtain ⟨E, hEE⟩ : ∃ E, E = wordsE l := ⟨_, rfl⟩
  have CB : Hid (Calls Try.prog 8 #[.slice A n cap] w fun e w' => e = .returned (.tuple #[.slice none 0 0, .int .i64 E]) ∧ w = w') := Lib.hid (by rw [hEE]; exact build_bad A n cap l w hT hE)
  have TB := Lib.hid trieBegun_any
  have he : (E == 0) = false := beq_eq_false_iff_ne.2 (hEE ▸ hE)
  clear hT hE hEE
  go_enter Try.func5, Try.ntmps5
  go_wp2_with fail
  refine CB.out.mono ?_
  rintro e w1 ⟨rfl, rfl⟩
  go_wp2_with fail
  refine (TB.out _).mono ?_
  rintro e w2 ⟨rfl, h2⟩
  go_wp2
  go_ret
  exact ⟨rfl, h2⟩
theorem trieTrue_walk (A : Option Addr) (n cap : Nat) (l : List ByteArray) (s : ByteArray) (i : Int) (hs : s.size ≤ 9223372036854775807) (hi : (Lit.int .i64 i).wf = true) (w : World) (hT : StrsAt w w.heap.size A n l) :
    Calls Try.prog 5 #[.slice A n cap, .string s, .int .i64 i] w fun e w' => e = .returned (.bool true) ∧ Below w.heap.size w w' := by
  by_cases hE : wordsE l = 0
  · exact trieTrue_right A n cap l s i hs hi w hT hE
  · exact trieTrue_bad A n cap l s i w hT hE
end Go.Proofs.Ytggepbkhhnhnkaa
