/- Tries: the walk of TrieOrder, whatever the words. -/
import Derived.Test.YtggepbkhhnhnkaaTrQ2
set_option linter.unusedVariables false
set_option linter.unusedSimpArgs false
namespace Go.Proofs.Ytggepbkhhnhnkaa
open Go.RowKit Gno
set_option maxRecDepth 100000 in
theorem trieOrder_bad (A : Option Addr) (n cap : Nat) (l : List ByteArray) (s : ByteArray) (i j : Int) (w : World) (hT : StrsAt w w.heap.size A n l) (hE : wordsE l ≠ 0) :
    Calls Try.prog 6 #[.slice A n cap, .string s, .int .i64 i, .int .i64 j] w fun e w' => e = .returned (.bool true) ∧ Below w.heap.size w w' := by
  obtain ⟨E, hEE⟩ : ∃ E, E = wordsE l := ⟨_, rfl⟩
  have CB : Hid (Calls Try.prog 8 #[.slice A n cap] w fun e w' => e = .returned (.tuple #[.slice none 0 0, .int .i64 E]) ∧ w = w') := Lib.hid (by rw [hEE]; exact build_bad A n cap l w hT hE)
  have TB := Lib.hid trieBegun_any
  have he : (E == 0) = false := beq_eq_false_iff_ne.2 (hEE ▸ hE)
  clear hT hE hEE
  go_enter Try.func6, Try.ntmps6
  go_wp2_with fail
  refine CB.out.mono ?_
  rintro e w1 ⟨rfl, rfl⟩
  go_wp2_with fail
  refine (TB.out _).mono ?_
  rintro e w2 ⟨rfl, h2⟩
  go_wp2
  go_ret
  exact ⟨rfl, h2⟩
set_option maxRecDepth 100000 in
theorem trieOrder_none (A : Option Addr) (cap : Nat) (l : List ByteArray) (s : ByteArray) (i j : Int) (w : World) (hT : StrsAt w w.heap.size A 0 l) (hE : wordsE l = 0) :
    Calls Try.prog 6 #[.slice A 0 cap, .string s, .int .i64 i, .int .i64 j] w fun e w' => e = .returned (.bool true) ∧ Below w.heap.size w w' := by
  have CB : Hid (Calls Try.prog 8 #[.slice A 0 cap] w (BuiltN w (buildL (bsL l)) fun v => .tuple #[v, .int .i64 0])) := Lib.hid (build_n A 0 cap l w hT hE)
  have TB := Lib.hid trieBegun_any
  clear hT hE
  go_enter Try.func6, Try.ntmps6
  go_wp2_with fail
  refine CB.out.mono ?_
  rintro e w1 ⟨A1, n1, cap1, rfl, hN1, hn1, h1⟩
  clear hN1
  go_wp2_with fail
  refine (TB.out _).mono ?_
  rintro e w2 ⟨rfl, h2⟩
  go_wp2
  go_ret
  exact ⟨rfl, h1.trans (h2.mono h1.size)⟩
theorem trieOrder_walk (A : Option Addr) (n cap : Nat) (l : List ByteArray) (s : ByteArray) (i j : Int) (hi : (Lit.int .i64 i).wf = true) (hj : (Lit.int .i64 j).wf = true) (w : World) (hT : StrsAt w w.heap.size A n l) :
    Calls Try.prog 6 #[.slice A n cap, .string s, .int .i64 i, .int .i64 j] w fun e w' => e = .returned (.bool true) ∧ Below w.heap.size w w' := by
  by_cases hE : wordsE l = 0
  · by_cases hn : 0 < n
    · exact trieOrder_right A n cap l s i j hi hj w hT hE hn
    · obtain rfl : n = 0 := by omega
      exact trieOrder_none A cap l s i j w hT hE
  · exact trieOrder_bad A n cap l s i j w hT hE
end Go.Proofs.Ytggepbkhhnhnkaa
