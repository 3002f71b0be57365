/- Tries: the walk of TrieBuilds. -/
import Derived.Test.YtggepbkhhnhnkaaTrB
import Derived.Test.YtggepbkhhnhnkaaTrV
set_option linter.unusedVariables false
set_option linter.unusedSimpArgs false
namespace Go.Proofs.Ytggepbkhhnhnkaa
open Go.RowKit Gno
theorem strs_nextB {w W : World} {A : Option Addr} {n : Nat} {l : List ByteArray} (h : StrsAt w w.heap.size A n l) (hb : Below w.heap.size w W) : StrsAt W W.heap.size A n l := (h.below hb (Nat.le_refl _)).more hb.size
theorem buildOf_n (A : Option Addr) (n cap : Nat) (l : List ByteArray) (w : World) (hT : StrsAt w w.heap.size A n l) (hE : wordsE l = 0) :
    Calls Try.prog 10 #[.slice A n cap] w (BuiltN w (buildL (bsL l)) fun v => v) := by
  have hl := hT.1
  unfold wordsE at hE
  by_cases h40 : 40 < n
  · rw [if_pos (by omega)] at hE; cases hE
  · rw [if_neg (by omega)] at hE
    cases hb : l.any wordBad
    · exact (buildOf_ok A n cap l w hT (by omega) hb).mono fun e w' h => built_n h
    · rw [hb, if_pos rfl] at hE; cases hE
set_option maxHeartbeats 8000000 in
theorem trieBuilds_walk (A : Option Addr) (n cap : Nat) (l : List ByteArray) (hs : ∀ s ∈ l, s.size ≤ 9223372036854775807) (t : List Nd) (A2 : Option Addr) (n2 cap2 : Nat) (w : World) (hT : StrsAt w w.heap.size A n l) (hN : NodesAt w w.heap.size A2 n2 t) :
    Calls Try.prog 3 #[.slice A n cap, .slice A2 n2 cap2] w fun e w' => e = .returned (.bool true) ∧ Below w.heap.size w w' := by
  obtain ⟨E, hE⟩ : ∃ E, E = trieE t := ⟨_, rfl⟩
  obtain ⟨R, hR⟩ : ∃ R, R = buildL (bsL l) := ⟨_, rfl⟩
  have TB := Lib.hid trieBegun_any
  have C : Hid (∀ W, Below w.heap.size w W → Calls Try.prog 12 #[.slice A2 n2 cap2] W fun e w' => e = .returned (.int .i64 E) ∧ Below W.heap.size W w') := Lib.hid fun W h => by rw [hE]; exact check_any t A2 n2 cap2 W (hN.next h)
  have D : Hid (∀ W, Below w.heap.size w W → Calls Try.prog 13 #[.slice A2 n2 cap2] W fun e w' => e = .returned (.int .i64 E) ∧ Below W.heap.size W w') := Lib.hid fun W h => by rw [hE]; exact checkR_any t A2 n2 cap2 W (hN.next h)
  have ST : Hid (∀ W A1 n1 c1 A3 n3 c3, NodesAt W W.heap.size A1 n1 R → NodesAt W W.heap.size A3 n3 R → Calls Try.prog 14 #[.slice A1 n1 c1, .slice A3 n3 c3] W fun e w' => e = .returned (.bool true) ∧ Below W.heap.size W w') := Lib.hid fun W A1 n1 c1 A3 n3 c3 h1 h3 => by
    have := sameT_any R R A1 A3 n1 c1 n3 c3 W h1 h3
    rwa [ndEq_self] at this
  have S0 : Hid (∀ W, Calls Try.prog 14 #[.slice none 0 0, .slice none 0 0] W fun e w' => e = .returned (.bool true) ∧ Below W.heap.size W w') := Lib.hid fun W => by
    have := sameT_any [] [] none none 0 0 0 0 W (nodes_nil W) (nodes_nil W)
    rwa [ndEq_self] at this
  have HT := Lib.hid hT
  clear hN
  by_cases hok : wordsE l = 0
  · have F : Hid (Calls Try.prog 8 #[.slice A n cap] w (BuiltN w R fun v => .tuple #[v, .int .i64 0])) := Lib.hid (by rw [hR]; exact build_n A n cap l w hT hok)
    have G : Hid (∀ W, Below w.heap.size w W → Calls Try.prog 9 #[.slice A n cap] W fun e w' => e = .returned (.int .i64 0) ∧ W = w') := Lib.hid fun W h => by
      have := buildE_any A n cap l W (strs_nextB HT.out h) hs
      rwa [hok] at this
    have H : Hid (∀ W, Below w.heap.size w W → Calls Try.prog 10 #[.slice A n cap] W (BuiltN W R fun v => v)) := Lib.hid fun W h => by rw [hR]; exact buildOf_n A n cap l W (strs_nextB HT.out h) hok
    clear hE hR hok hT
    go_enter Try.func3, Try.ntmps3
    go_wp2_with fail
    refine F.out.mono ?_
    rintro e w1 ⟨A1, n1, c1, rfl, hN1, _, h1⟩
    have HN1 := Lib.hid hN1
    clear hN1
    go_wp2_with fail
    refine (G.out _ h1).mono ?_
    rintro e w2 ⟨rfl, rfl⟩
    go_wp2_with fail
    refine (H.out _ h1).mono ?_
    rintro e w3 ⟨A3, n3, c3, rfl, hN3, _, h3⟩
    replace HN1 := Lib.hid (HN1.out.next h3)
    have HN3 := Lib.hid hN3
    replace h3 := h1.trans (h3.mono h1.size)
    clear h1 hN3
    go_wp2_with fail
    refine (TB.out _).mono ?_
    rintro e w4 ⟨rfl, h4⟩
    replace HN1 := Lib.hid (HN1.out.next h4)
    replace HN3 := Lib.hid (HN3.out.next h4)
    replace h4 := h3.trans (h4.mono h3.size)
    clear h3
    go_wp2_with fail
    refine (C.out _ h4).mono ?_
    rintro e w5 ⟨rfl, h5⟩
    replace HN1 := Lib.hid (HN1.out.next h5)
    replace HN3 := Lib.hid (HN3.out.next h5)
    replace h5 := h4.trans (h5.mono h4.size)
    clear h4
    go_wp2_with fail
    refine (D.out _ h5).mono ?_
    rintro e w6 ⟨rfl, h6⟩
    replace HN1 := Lib.hid (HN1.out.next h6)
    replace HN3 := Lib.hid (HN3.out.next h6)
    replace h6 := h5.trans (h6.mono h5.size)
    clear h5
    go_wp2_with fail
    refine (ST.out _ _ _ _ _ _ _ HN1.out HN3.out).mono ?_
    rintro e w7 ⟨rfl, h7⟩
    replace h7 := h6.trans (h7.mono h6.size)
    clear h6
    go_wp2
    go_ret
    exact ⟨rfl, h7⟩
  · obtain ⟨X, hX⟩ : ∃ X, X = wordsE l := ⟨_, rfl⟩
    have F : Hid (Calls Try.prog 8 #[.slice A n cap] w fun e w' => e = .returned (.tuple #[.slice none 0 0, .int .i64 X]) ∧ w = w') := Lib.hid (by rw [hX]; exact build_bad A n cap l w hT hok)
    have G : Hid (∀ W, Below w.heap.size w W → Calls Try.prog 9 #[.slice A n cap] W fun e w' => e = .returned (.int .i64 X) ∧ W = w') := Lib.hid fun W h => by
      rw [hX]; exact buildE_any A n cap l W (strs_nextB HT.out h) hs
    have hx0 : (X == 0) = false := by rw [hX]; simpa using hok
    have hx1 : (X != 0) = true := by rw [hX]; simpa using hok
    clear hE hR hok hT hX
    go_enter Try.func3, Try.ntmps3
    go_wp2_with fail
    refine F.out.mono ?_
    rintro e w1 ⟨rfl, rfl⟩
    go_wp2_with fail
    refine (G.out _ (Below.refl _ _)).mono ?_
    rintro e w2 ⟨rfl, rfl⟩
    go_wp2_with fail
    refine (TB.out _).mono ?_
    rintro e w4 ⟨rfl, h4⟩
    go_wp2_with fail
    refine (C.out _ h4).mono ?_
    rintro e w5 ⟨rfl, h5⟩
    replace h5 := h4.trans (h5.mono h4.size)
    clear h4
    go_wp2_with fail
    refine (D.out _ h5).mono ?_
    rintro e w6 ⟨rfl, h6⟩
    replace h6 := h5.trans (h6.mono h5.size)
    clear h5
    go_wp2_with fail
    refine (S0.out _).mono ?_
    rintro e w7 ⟨rfl, h7⟩
    replace h7 := h6.trans (h7.mono h6.size)
    clear h6
    go_wp2
    go_ret
    exact ⟨rfl, h7⟩
end Go.Proofs.Ytggepbkhhnhnkaa
