/- Tries: the walk of TrieMore. -/
import Derived.Test.YtggepbkhhnhnkaaTrM2
import Derived.Deep.QuietTactic
set_option linter.unusedVariables false
set_option linter.unusedSimpArgs false
namespace Go.Proofs.Ytggepbkhhnhnkaa
open Go.RowKit Gno
set_option maxHeartbeats 16000000 in
set_option maxRecDepth 100000 in
theorem trieMore_right (A : Option Addr) (n cap : Nat) (l : List ByteArray) (s b : ByteArray) (hs : s.size ≤ 1048576) (hb : b.size ≤ 1048576) (w : World) (hT : StrsAt w w.heap.size A n l) (hE : wordsE l = 0) :
    Calls Try.prog 7 #[.slice A n cap, .string s, .string b] w fun e w' => e = .returned (.bool true) ∧ Below w.heap.size w w' := by
  have CB : Hid (Calls Try.prog 8 #[.slice A n cap] w (BuiltN w (buildL (bsL l)) fun v => .tuple #[v, .int .i64 0])) := Lib.hid (build_n A n cap l w hT hE)
  have TB := Lib.hid trieBegun_any
  have HT := Lib.hid hT
  have HE := Lib.hid hE
  have HN : Hid (l.length = n) := Lib.hid hT.1
  have hn40 : n ≤ 40 := hT.1 ▸ (words_ok hE).1
  clear hT hE
  have hab : s.size + b.size ≤ 9223372036854775807 := by omega
  go_enter Try.func7, Try.ntmps7
  go_wp2_with fail
  refine CB.out.mono ?_
  rintro e w1 ⟨A1, n1, cap1, rfl, hN1, hn1, h1⟩
  clear CB
  obtain ⟨J, hJ⟩ : ∃ J, J = lgK (buildL (bsL l)) (bs s) s.size := ⟨_, rfl⟩
  obtain ⟨M, hM⟩ : ∃ M, M = lgN (buildL (bsL l)) (bs s) s.size := ⟨_, rfl⟩
  obtain ⟨J2, hJ2⟩ : ∃ J2, J2 = lgK (buildL (bsL l)) (bs (s ++ b)) (s ++ b).size := ⟨_, rfl⟩
  obtain ⟨M2, hM2⟩ : ∃ M2, M2 = lgN (buildL (bsL l)) (bs (s ++ b)) (s ++ b).size := ⟨_, rfl⟩
  obtain ⟨J3, hJ3⟩ : ∃ J3, J3 = lgK (buildL (bsL l)) (bs (s.extract 0 M)) (s.extract 0 M).size := ⟨_, rfl⟩
  have G : Hid (∀ W, Below w1.heap.size w1 W → Calls Try.prog 16 #[.slice A1 n1 cap1, .string s] W fun e w' => e = .returned (.tuple #[.int .i64 J, .int .i64 M, .int .i64 0]) ∧ Below W.heap.size W w') := Lib.hid fun W h => by
    rw [hJ, hM]; exact longW_any HE.out A1 n1 cap1 s W (hN1.next h)
  have G2 : Hid (∀ W, Below w1.heap.size w1 W → Calls Try.prog 16 #[.slice A1 n1 cap1, .string (s ++ b)] W fun e w' => e = .returned (.tuple #[.int .i64 J2, .int .i64 M2, .int .i64 0]) ∧ Below W.heap.size W w') := Lib.hid fun W h => by
    rw [hJ2, hM2]; exact longW_any HE.out A1 n1 cap1 (s ++ b) W (hN1.next h)
  have hself := self_is HE.out s M hM
  have G3 : Hid (∀ W, Below w1.heap.size w1 W → Calls Try.prog 16 #[.slice A1 n1 cap1, .string (s.extract 0 M)] W fun e w' => e = .returned (.tuple #[.int .i64 J3, .int .i64 M, .int .i64 0]) ∧ Below W.heap.size W w') := Lib.hid fun W h => by
    have := longW_any HE.out A1 n1 cap1 (s.extract 0 M) W (hN1.next h)
    rwa [hself.1, ← hJ3] at this
  have hMs : M ≤ s.size := by rw [hM]; exact (lgN_spec _ _ _).1
  have hM12 : M ≤ M2 := by rw [hM, hM2]; exact more_le l s b
  have HJ3 : Hid (decide (0 ≤ J3) = decide (0 < M)) := Lib.hid (by rw [hJ3]; exact hself.2)
  have HS : Hid (n1 ≤ sumF l 1) := Lib.hid (by rw [← hN1.1]; exact nodes_few l)
  clear hJ hM hJ2 hM2 hJ3 hself hN1
  have hm1 : ¬ M2 < M := by omega
  go_wp2_with fail
  refine (G.out _ (Below.refl _ _)).mono ?_
  rintro e w2 ⟨rfl, h2⟩
  go_wp2_with fail
  refine (G2.out _ h2).mono ?_
  rintro e w3 ⟨rfl, h3⟩
  replace h3 := h2.trans (h3.mono h2.size)
  clear h2
  go_wp2_with fail
  refine (G3.out _ h3).mono ?_
  rintro e w4 ⟨rfl, h4⟩
  replace h4 := h3.trans (h4.mono h3.size)
  clear h3
  go_wp2_with fail
  go_loopw [18, 19] (fun s18 s19 wr => ∃ (x z : Nat), x ≤ n ∧ s19 = .int .i64 x ∧ s18 = .int .i64 z ∧ z ≤ 1 + 12 * x ∧ Hid (sumF (l.drop x) z = sumF l 1) ∧ Below w1.heap.size w1 wr) (fun _ s19 _ => n - (intOf s19).toNat)
  case atStart => exact ⟨0, 1, Nat.zero_le _, rfl, rfl, by omega, Lib.hid rfl, h4⟩
  case round =>
    clear h4
    obtain ⟨x, z, hx, rfl, rfl, hz, HZ, h4⟩ := hrel
    have h5 := h1.trans (h4.mono h1.size)
    by_cases hlt : x < n
    · obtain ⟨p, o, q, hA, hpB, hq, hqq⟩ := strs_get HT.out hlt
      subst hA
      have e0 := hqq _ h5
      have HZ2 : Hid (sumF (l.drop (x + 1)) (z + q.size) = sumF l 1) := Lib.hid (by have := HZ.out; rwa [drop_at hq] at this)
      have hq0 : q.size ≤ 12 := ((words_ok HE.out).2 q (List.mem_of_getElem? hq)).2
      clear hq hqq HZ
      go_wp2
      go_roundw
      case rel => exact ⟨x + 1, z + q.size, by omega, by go_num, by go_num, by omega, HZ2, h4⟩
      case measure => simp [intOf]; omega
    · have hxn : x = n := by omega
      subst hxn
      have hsz : n1 ≤ z := by
        have h6 := HZ.out
        rw [List.drop_eq_nil_of_le (by rw [HN.out]; exact Nat.le_refl _)] at h6
        have h7 : z = sumF l 1 := h6
        rw [h7]; exact HS.out
      have hszd : decide (n1 ≤ z) = true := decide_eq_true hsz
      have h4d := h4.drew
      have hj : (decide (0 ≤ J3) = true ∧ decide (0 < M) = true) ∨ (decide (0 ≤ J3) = false ∧ decide (0 < M) = false) := by
        rw [HJ3.out]
        cases decide (0 < M)
        · exact .inr ⟨rfl, rfl⟩
        · exact .inl ⟨rfl, rfl⟩
      rcases hj with ⟨j1, j2⟩ | ⟨j1, j2⟩
      all_goals
        go_wp2_with fail
        refine (TB.out _).mono ?_
        rintro e w7 ⟨rfl, h90⟩
        have h9 := h4.trans (h90.mono h4.size)
        go_wp2
        go_ret
        exact ⟨rfl, h1.trans (h9.mono h1.size)⟩
set_option maxRecDepth 100000 in
theorem trieMore_bad (A : Option Addr) (n cap : Nat) (l : List ByteArray) (s b : ByteArray) (w : World) (hT : StrsAt w w.heap.size A n l) (hE : wordsE l ≠ 0) :
    Calls Try.prog 7 #[.slice A n cap, .string s, .string b] w fun e w' => e = .returned (.bool true) ∧ Below w.heap.size w w' := by
  obtain ⟨E, hEE⟩ : ∃ E, E = wordsE l := ⟨_, rfl⟩
  have CB : Hid (Calls Try.prog 8 #[.slice A n cap] w fun e w' => e = .returned (.tuple #[.slice none 0 0, .int .i64 E]) ∧ w = w') := Lib.hid (by rw [hEE]; exact build_bad A n cap l w hT hE)
  have TB := Lib.hid trieBegun_any
  have he : (E == 0) = false := beq_eq_false_iff_ne.2 (hEE ▸ hE)
  clear hT hE hEE
  go_enter Try.func7, Try.ntmps7
  go_wp2_with fail
  refine CB.out.mono ?_
  rintro e w1 ⟨rfl, rfl⟩
  go_wp2_with fail
  refine (TB.out _).mono ?_
  rintro e w2 ⟨rfl, h2⟩
  go_wp2
  go_ret
  exact ⟨rfl, h2⟩
theorem trieMore_walk (A : Option Addr) (n cap : Nat) (l : List ByteArray) (s b : ByteArray) (hs : s.size ≤ 1048576) (hb : b.size ≤ 1048576) (w : World) (hT : StrsAt w w.heap.size A n l) :
    Calls Try.prog 7 #[.slice A n cap, .string s, .string b] w fun e w' => e = .returned (.bool true) ∧ Below w.heap.size w w' := by
  by_cases hE : wordsE l = 0
  · exact trieMore_right A n cap l s b hs hb w hT hE
  · exact trieMore_bad A n cap l s b w hT hE
end Go.Proofs.Ytggepbkhhnhnkaa
