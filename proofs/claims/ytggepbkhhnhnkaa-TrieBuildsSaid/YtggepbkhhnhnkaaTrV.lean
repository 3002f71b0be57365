/- Tries: the walk of TrieFinds. -/
import Derived.Test.YtggepbkhhnhnkaaTrU
set_option linter.unusedVariables false
set_option linter.unusedSimpArgs false
namespace Go.Proofs.Ytggepbkhhnhnkaa
open Go.RowKit Gno
set_option maxHeartbeats 8000000 in
theorem trieFinds_walk (t : List Nd) (A : Option Addr) (n cap : Nat) (s : ByteArray) (hs : s.size ≤ 9223372036854775807) (w : World) (hT : NodesAt w w.heap.size A n t) :
    Calls Try.prog 4 #[.slice A n cap, .string s] w fun e w' => e = .returned (.bool true) ∧ Below w.heap.size w w' := by
  obtain ⟨K, hK⟩ : ∃ K, K = findW t s := ⟨_, rfl⟩
  obtain ⟨L, hL⟩ : ∃ L, L = longKW t s := ⟨_, rfl⟩
  obtain ⟨M, hM⟩ : ∃ M, M = longNW t s := ⟨_, rfl⟩
  obtain ⟨E, hE⟩ : ∃ E, E = trieE t := ⟨_, rfl⟩
  have F : Hid (∀ W, Below w.heap.size w W → Calls Try.prog 15 #[.slice A n cap, .string s] W fun e w' => e = .returned (.tuple #[.int .i64 K, .int .i64 E]) ∧ Below W.heap.size W w') := Lib.hid fun W h => by rw [hK, hE]; exact findT_any t A n cap s hs W (hT.next h)
  have G : Hid (∀ W, Below w.heap.size w W → Calls Try.prog 16 #[.slice A n cap, .string s] W fun e w' => e = .returned (.tuple #[.int .i64 L, .int .i64 M, .int .i64 E]) ∧ Below W.heap.size W w') := Lib.hid fun W h => by rw [hL, hM, hE]; exact longT_any t A n cap s hs W (hT.next h)
  have C : Hid (∀ W, Below w.heap.size w W → Calls Try.prog 13 #[.slice A n cap] W fun e w' => e = .returned (.int .i64 E) ∧ Below W.heap.size W w') := Lib.hid fun W h => by rw [hE]; exact checkR_any t A n cap W (hT.next h)
  have TB := Lib.hid trieBegun_any
  cases hok : trieOk t
  · have e1 : E = 1 := hE.trans (by unfold trieE; rw [hok]; rfl)
    have e2 : K = 0 := hK.trans (by unfold findW; rw [hok]; rfl)
    have e3 : L = 0 := hL.trans (by unfold longKW; rw [hok]; rfl)
    have e4 : M = 0 := hM.trans (by unfold longNW; rw [hok]; rfl)
    clear hK hL hM hE hok hT
    subst e1 e2 e3 e4
    go_enter Try.func4, Try.ntmps4
    go_wp2_with fail
    refine (F.out _ (Below.refl _ _)).mono ?_
    rintro e w1 ⟨rfl, h1⟩
    go_wp2_with fail
    refine (G.out _ h1).mono ?_
    rintro e w2 ⟨rfl, h2⟩
    replace h2 := h1.trans (h2.mono h1.size)
    clear h1
    go_wp2_with fail
    refine (C.out _ h2).mono ?_
    rintro e w3 ⟨rfl, h3⟩
    replace h3 := h2.trans (h3.mono h2.size)
    clear h2
    go_wp2_with fail
    refine (TB.out _).mono ?_
    rintro e w4 ⟨rfl, h4⟩
    replace h4 := h3.trans (h4.mono h3.size)
    clear h3
    go_wp2
    go_ret
    exact ⟨rfl, h4⟩
  · have e1 : E = 0 := hE.trans (by unfold trieE; rw [hok]; rfl)
    have R : Hid (∀ W, Below w.heap.size w W → Calls Try.prog 17 #[.slice A n cap, .string s] W fun e w' => e = .returned (.int .i64 K) ∧ Below W.heap.size W w') := Lib.hid fun W h => by
      have := findR_any t A n cap s hs W (hT.next h) hok
      rwa [show findK t (bs s) = K from by rw [hK]; unfold findW; rw [if_pos hok]] at this
    have Q : Hid (∀ W, Below w.heap.size w W → Calls Try.prog 18 #[.slice A n cap, .string s] W fun e w' => e = .returned (.tuple #[.int .i64 L, .int .i64 M]) ∧ Below W.heap.size W w') := Lib.hid fun W h => by
      have := longR_any t A n cap s hs W (hT.next h) hok
      rwa [show lgK t (bs s) s.size = L from by rw [hL]; unfold longKW; rw [if_pos hok], show (lgN t (bs s) s.size : Int) = M from by rw [hM]; unfold longNW; rw [if_pos hok]] at this
    clear hK hL hM hE hok hT
    subst e1
    go_enter Try.func4, Try.ntmps4
    go_wp2_with fail
    refine (F.out _ (Below.refl _ _)).mono ?_
    rintro e w1 ⟨rfl, h1⟩
    go_wp2_with fail
    refine (G.out _ h1).mono ?_
    rintro e w2 ⟨rfl, h2⟩
    replace h2 := h1.trans (h2.mono h1.size)
    clear h1
    go_wp2_with fail
    refine (C.out _ h2).mono ?_
    rintro e w3 ⟨rfl, h3⟩
    replace h3 := h2.trans (h3.mono h2.size)
    clear h2
    go_wp2_with fail
    refine (R.out _ h3).mono ?_
    rintro e w4 ⟨rfl, h4⟩
    replace h4 := h3.trans (h4.mono h3.size)
    clear h3
    go_wp2_with fail
    refine (Q.out _ h4).mono ?_
    rintro e w5 ⟨rfl, h5⟩
    replace h5 := h4.trans (h5.mono h4.size)
    clear h4
    go_wp2_with fail
    refine (TB.out _).mono ?_
    rintro e w6 ⟨rfl, h6⟩
    replace h6 := h5.trans (h6.mono h5.size)
    clear h5
    go_wp2
    go_ret
    exact ⟨rfl, h6⟩
end Go.Proofs.Ytggepbkhhnhnkaa
