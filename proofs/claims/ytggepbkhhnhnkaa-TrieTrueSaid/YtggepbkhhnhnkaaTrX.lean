/- Tries: the walk of TrieTrue. -/
import Derived.Test.YtggepbkhhnhnkaaTrW
import Derived.Test.YtggepbkhhnhnkaaChoose
import Derived.Deep.QuietTactic
set_option linter.unusedVariables false
set_option linter.unusedSimpArgs false
namespace Gno
open Go Go.RowKit Go.Proofs.Ytggepbkhhnhnkaa
theorem same_yes {t z : ByteArray} (h : t = z) : (t.toList == z.toList) = true := by rw [h]; exact beq_self_eq_true _
theorem same_no {t z : ByteArray} (h : ¬ t = z) : (t.toList == z.toList) = false := by
  rw [beq_eq_false_iff_ne]
  intro e
  have h1 := Lib.toList_data t
  have h2 := Lib.toList_data z
  exact h (ByteArray.ext (Array.ext' (by rw [← h1, ← h2, e])))
theorem fir_yes {s q : ByteArray} {r : List ByteArray} {k : Nat} {f : Int} (h : q = s) (hf : f < 0) : firF s (q :: r) k f = firF s r (k + 1) k := by
  rw [firF, if_pos ⟨h, hf⟩]
theorem fir_keep {s q : ByteArray} {r : List ByteArray} {k : Nat} {f : Int} (h : ¬ (q = s ∧ f < 0)) : firF s (q :: r) k f = firF s r (k + 1) f := by
  rw [firF, if_neg h]
theorem best_yes {s q : ByteArray} {r : List ByteArray} {b : Nat} (h : isPre s q) : bestF s (q :: r) b = bestF s r (max b q.size) := by
  rw [bestF, if_pos h]
theorem best_keep {s q : ByteArray} {r : List ByteArray} {b : Nat} (h : ¬ isPre s q) : bestF s (q :: r) b = bestF s r b := by
  rw [bestF, if_neg h]
theorem fir_cases {s q : ByteArray} {r : List ByteArray} {k : Nat} {f K : Int} (h : firF s (q :: r) k f = K) :
    (((q.toList == s.toList) = true ∧ decide (f < 0) = true) ∧ firF s r (k + 1) k = K) ∨ (((q.toList == s.toList) = true ∧ decide (f < 0) = false) ∧ firF s r (k + 1) f = K) ∨ ((q.toList == s.toList) = false ∧ firF s r (k + 1) f = K) := by
  by_cases h1 : q = s
  · by_cases h2 : f < 0
    · exact .inl ⟨⟨same_yes h1, decide_eq_true h2⟩, (fir_yes h1 h2).symm.trans h⟩
    · exact .inr (.inl ⟨⟨same_yes h1, decide_eq_false h2⟩, (fir_keep (fun h3 => h2 h3.2)).symm.trans h⟩)
  · exact .inr (.inr ⟨same_no h1, (fir_keep (fun h3 => h1 h3.1)).symm.trans h⟩)
theorem best_cases {s q : ByteArray} {r : List ByteArray} {b M : Nat} (h : bestF s (q :: r) b = M) :
    (((q.size ≤ s.size ∧ decide (q.size ≤ s.size) = true) ∧ ((s.extract 0 q.size).toList == q.toList) = true) ∧ bestF s r (max b q.size) = M) ∨ (((q.size ≤ s.size ∧ decide (q.size ≤ s.size) = true) ∧ ((s.extract 0 q.size).toList == q.toList) = false) ∧ bestF s r b = M) ∨ ((¬ q.size ≤ s.size ∧ decide (q.size ≤ s.size) = false) ∧ bestF s r b = M) := by
  by_cases h1 : q.size ≤ s.size
  · by_cases h2 : s.extract 0 q.size = q
    · exact .inl ⟨⟨⟨h1, decide_eq_true h1⟩, same_yes h2⟩, (best_yes ⟨h1, h2⟩).symm.trans h⟩
    · exact .inr (.inl ⟨⟨⟨h1, decide_eq_true h1⟩, same_no h2⟩, (best_keep (fun h3 => h2 h3.2)).symm.trans h⟩)
  · exact .inr (.inr ⟨⟨h1, decide_eq_false h1⟩, (best_keep (fun h3 => h1 h3.1)).symm.trans h⟩)
end Gno
namespace Go.Proofs.Ytggepbkhhnhnkaa
open Go.RowKit Gno
set_option maxHeartbeats 16000000 in
set_option maxRecDepth 100000 in
theorem trieTrue_right (A : Option Addr) (n cap : Nat) (l : List ByteArray) (s : ByteArray) (i : Int) (hs : s.size ≤ 9223372036854775807) (hi : (Lit.int .i64 i).wf = true) (w : World) (hT : StrsAt w w.heap.size A n l) (hE : wordsE l = 0) :
    Calls Try.prog 5 #[.slice A n cap, .string s, .int .i64 i] w fun e w' => e = .returned (.bool true) ∧ Below w.heap.size w w' := by
  have CB : Hid (Calls Try.prog 8 #[.slice A n cap] w (BuiltN w (buildL (bsL l)) fun v => .tuple #[v, .int .i64 0])) := Lib.hid (build_n A n cap l w hT hE)
  have TB := Lib.hid trieBegun_any
  have HT := Lib.hid hT
  have HE := Lib.hid hE
  have HN : Hid (l.length = n) := Lib.hid hT.1
  have hn40 : n ≤ 40 := hT.1 ▸ (words_ok hE).1
  clear hT hE
  go_enter Try.func5, Try.ntmps5
  go_wp2_with fail
  refine CB.out.mono ?_
  rintro e w1 ⟨A1, n1, cap1, rfl, hN1, hn1, h1⟩
  clear CB
  have HN1 := Lib.hid hN1
  obtain ⟨K, hK⟩ : ∃ K, K = ixF (bsL l) (bs s) := ⟨_, rfl⟩
  obtain ⟨J, hJ⟩ : ∃ J, J = lgK (buildL (bsL l)) (bs s) s.size := ⟨_, rfl⟩
  obtain ⟨M, hM⟩ : ∃ M, M = lgN (buildL (bsL l)) (bs s) s.size := ⟨_, rfl⟩
  have F : Hid (∀ u : ByteArray, u.size ≤ 9223372036854775807 → ∀ W, Below w1.heap.size w1 W → Calls Try.prog 15 #[.slice A1 n1 cap1, .string u] W fun e w' => e = .returned (.tuple #[.int .i64 (ixF (bsL l) (bs u)), .int .i64 0]) ∧ Below W.heap.size W w') := Lib.hid fun u hu W h => by
    have := findT_any _ A1 n1 cap1 u hu W (hN1.next h)
    rwa [show findW (buildL (bsL l)) u = ixF (bsL l) (bs u) from by unfold findW; rw [if_pos (buildL_ok _), buildL_find], show trieE (buildL (bsL l)) = 0 from by unfold trieE; rw [if_pos (buildL_ok _)]] at this
  have F1 : Hid (∀ W, Below w1.heap.size w1 W → Calls Try.prog 15 #[.slice A1 n1 cap1, .string s] W fun e w' => e = .returned (.tuple #[.int .i64 K, .int .i64 0]) ∧ Below W.heap.size W w') := Lib.hid fun W h => by rw [hK]; exact F.out s hs W h
  have G : Hid (∀ W, Below w1.heap.size w1 W → Calls Try.prog 16 #[.slice A1 n1 cap1, .string s] W fun e w' => e = .returned (.tuple #[.int .i64 J, .int .i64 M, .int .i64 0]) ∧ Below W.heap.size W w') := Lib.hid fun W h => by
    have := longT_any _ A1 n1 cap1 s hs W (hN1.next h)
    rwa [show longKW (buildL (bsL l)) s = J from by unfold longKW; rw [if_pos (buildL_ok _), hJ], show longNW (buildL (bsL l)) s = M from by unfold longNW; rw [if_pos (buildL_ok _), hM], show trieE (buildL (bsL l)) = 0 from by unfold trieE; rw [if_pos (buildL_ok _)]] at this
  have C : Hid (∀ W, Below w1.heap.size w1 W → Calls Try.prog 12 #[.slice A1 n1 cap1] W fun e w' => e = .returned (.int .i64 0) ∧ Below W.heap.size W w') := Lib.hid fun W h => by
    have := check_any _ A1 n1 cap1 W (hN1.next h)
    rwa [show trieE (buildL (bsL l)) = 0 from by unfold trieE; rw [if_pos (buildL_ok _)]] at this
  have HKl : Hid (-1 ≤ K ∧ K < (n : Int)) := Lib.hid (by rw [hK, ← HN.out]; exact find_at l s)
  have HJl : Hid (-1 ≤ J ∧ J < (n : Int)) := Lib.hid (by rw [hJ, ← HN.out]; exact lgK_lt l s)
  have HMl : Hid (M ≤ s.size) := Lib.hid (by rw [hM]; exact (lgN_spec _ _ _).1)
  have HMB : Hid (bestF s l 0 = M) := Lib.hid (by rw [hM]; exact (best_is l s).symm)
  have HKF : Hid (firF s l 0 (-1) = K) := Lib.hid (by rw [hK]; exact fir_ix s l)
  have HJM : Hid (J < 0 ↔ M = 0) := Lib.hid (by rw [hJ, hM]; exact lgK_neg HE.out s)
  have HJW : Hid (0 ≤ J → l[J.toNat]? = some (s.extract 0 M)) := Lib.hid (by rw [hJ, hM]; exact fun h => lgK_word h)
  clear hK hJ hM
  go_wp2_with fail
  refine (F1.out _ (Below.refl _ _)).mono ?_
  rintro e w2 ⟨rfl, h2⟩
  go_wp2_with fail
  refine (G.out _ h2).mono ?_
  rintro e w3 ⟨rfl, h3⟩
  replace h3 := h2.trans (h3.mono h2.size)
  clear h2
  obtain ⟨k1, k2⟩ := HKl.out
  obtain ⟨j1, j2⟩ := HJl.out
  have m1 := HMl.out
  go_wp2_with (go_at_call 12; (with_reducible refine (C.out _ h3).mono ?_); rintro e w4 ⟨rfl, h4⟩)
  replace h4 := h3.trans (h4.mono h3.size)
  clear h3
  have h5 := h1.trans (h4.mono h1.size)
  clear k1 k2 j1 j2 m1
  obtain ⟨z1, hz1⟩ : ∃ z, z = w1.heap.size := ⟨_, rfl⟩
  go_loopw [14, 15, 16] (fun s14 s15 s16 wr => ∃ (x b : Nat) (f : Int), x ≤ n ∧ s16 = .int .i64 x ∧ s15 = .int .i64 b ∧ s14 = .int .i64 f ∧ Hid (firF s (l.drop x) x f = K) ∧ Hid (bestF s (l.drop x) b = M) ∧ Below w1.heap.size w1 wr) (fun _ _ s16 _ => n - (intOf s16).toNat)
  case atStart => exact ⟨0, 0, -1, Nat.zero_le _, rfl, rfl, rfl, HKF, HMB, h4⟩
  case round =>
    clear h4 h5
    obtain ⟨x, b, f, hx, rfl, rfl, rfl, HF, HB, h4⟩ := hrel
    have h5 := h1.trans (h4.mono h1.size)
    by_cases hlt : x < n
    · obtain ⟨p, o, q, hA, hpB, hq, hqq⟩ := strs_get HT.out hlt
      subst hA
      have e0 := hqq _ h5
      have e0d := hqq _ h5.drew
      have h4d := h4.drew
      have hdr := drop_at hq
      have HF1 := fir_cases (hdr ▸ HF.out)
      have HB1 := best_cases (hdr ▸ HB.out)
      have hq0 : q.size ≤ 12 := ((words_ok HE.out).2 q (List.mem_of_getElem? hq)).2
      clear hq hqq hdr HF HB
      rcases HF1 with ⟨⟨g1, g2⟩, HF2⟩ | ⟨⟨g1, g2⟩, HF2⟩ | ⟨g1, HF2⟩
      all_goals
        rcases HB1 with ⟨⟨⟨b1, b3⟩, b2⟩, HB2⟩ | ⟨⟨⟨b1, b3⟩, b2⟩, HB2⟩ | ⟨⟨b1, b3⟩, HB2⟩
        all_goals
          replace HF2 := Lib.hid HF2
          replace HB2 := Lib.hid HB2
          go_wp2
          go_quiet (fail)
          all_goals go_wp2
          go_roundw
          case rel => exact ⟨x + 1, _, _, by omega, by go_num, by first | rfl | (congr 1; rw [Nat.max_def]; split <;> split <;> omega), rfl, HF2, HB2, below_drewT h4 _⟩
          case measure => simp [intOf]; omega
    · have hxn : x = n := by omega
      subst hxn
      have hd : l.drop x = [] := List.drop_eq_nil_of_le (by rw [HN.out]; exact Nat.le_refl _)
      have hf : f = K := by have := HF.out; rw [hd] at this; exact this
      have hb : b = M := by have := HB.out; rw [hd] at this; exact this
      subst hf hb
      clear HF HB hd HKF HMB
      obtain ⟨k1, k2⟩ := HKl.out
      obtain ⟨j1, j2⟩ := HJl.out
      have m1 := HMl.out
      have h5d := h5.drew
      by_cases hx0 : x = 0
      · subst hx0
        have hm0 : ((b : Int) == 0) = true := beq_iff_eq.2 (by have := HJM.out.1 (by omega); omega)
        have hj0 : decide (J < 0) = true := decide_eq_true (by omega)
        have hj1 : decide (0 ≤ J) = false := decide_eq_false (by omega)
        go_wp2_with fail
        go_quiet (fail)
        go_wp2_with fail
        refine (TB.out _).mono ?_
        rintro e w5 ⟨rfl, h6⟩
        have h7 := (below_drewT h5 nq).trans (h6.mono (below_drewT h5 nq).size)
        go_wp2
        go_ret
        exact ⟨rfl, h7⟩
      · have HCH0 : Hid (∀ w, Calls Try.prog 19 #[.int .i64 i, .int .i64 x] w fun e w' => e = .returned (.int .i64 (chooseN i x)) ∧ w = w') := Lib.hid fun w => choose_any i x w hi (by omega) (by omega)
        have hbd := chooseN_bd i x (by omega)
        obtain ⟨yb, hyb⟩ : ∃ yb : Nat, chooseN i x = (yb : Int) := ⟨(chooseN i x).toNat, by omega⟩
        have hyl : yb < x := by omega
        have HCH := HCH0
        rw [hyb] at HCH
        clear HCH0 hbd hyb
        obtain ⟨p, o, qy, hA, hpB, hqy0, hqy⟩ := strs_get HT.out hyl
        subst hA
        obtain ⟨z, hz1, hz2, hz3⟩ := find_word hqy0
        have hqs := ((words_ok HE.out).2 qy (List.mem_of_getElem? hqy0)).2
        have FY : Hid (∀ W, Below w1.heap.size w1 W → Calls Try.prog 15 #[.slice A1 n1 cap1, .string qy] W fun e w' => e = .returned (.tuple #[.int .i64 z, .int .i64 0]) ∧ Below W.heap.size W w') := Lib.hid fun W h => by rw [← hz1]; exact F.out qy (by omega) W h
        obtain ⟨_, _, qz, hA, _, hqz0, hqz⟩ := strs_get HT.out (show z < x by omega)
        injection hA with hA
        injection hA with hA1 hA2
        subst hA1 hA2
        obtain rfl : qz = qy := by rw [hqz0] at hz3; injection hz3
        clear hz1 hz3 hqy0 hqz0
        have hzx : z < x := by omega
        have hyz : decide ((z : Int) ≤ (yb : Int)) = true := decide_eq_true (by omega)
        have hyz2 : decide (z ≤ yb) = true := decide_eq_true hz2
        have hz0 : decide ((0 : Int) ≤ (z : Int)) = true := decide_eq_true (by omega)
        by_cases hJ0 : 0 ≤ J
        · obtain ⟨jn, rfl⟩ : ∃ jn : Nat, J = (jn : Int) := ⟨J.toNat, by omega⟩
          obtain ⟨_, _, q, hA, _, hq, hqq⟩ := strs_get HT.out (i := jn) (by omega)
          obtain rfl : q = s.extract 0 b := by have := HJW.out hJ0; rw [Int.toNat_natCast, hq] at this; injection this
          injection hA with hA
          injection hA with hA1 hA2
          subst hA1 hA2
          have e0 := hqq _ h5
          have e0d := hqq _ h5d
          have hm0 : ((b : Int) == 0) = false := beq_eq_false_iff_ne.2 (fun h => by have := HJM.out.2 (by omega); omega)
          have hj0 : decide ((jn : Int) < 0) = false := decide_eq_false (by omega)
          have hj1 : decide ((0 : Int) ≤ jn) = true := decide_eq_true (by omega)
          go_wp2_with fail
          go_quiet (fail)
          go_wp2_with fail
          refine (HCH.out _).mono ?_
          rintro e w5 ⟨rfl, hw5⟩
          have h6 := below_drewT h4 nq
          rw [hw5] at h6
          clear hw5 h4 h5 h5d
          have h7 := h1.trans (h6.mono h1.size)
          have e1 := hqy _ h7
          go_wp2_with fail
          refine (FY.out _ h6).mono ?_
          rintro e w6 ⟨rfl, h8⟩
          replace h8 := h6.trans (h8.mono h6.size)
          clear h6 h7 e1
          have h8d := h8.drew
          have HS : Hid (∀ V, Below w1.heap.size w1 V → V.cell? ⟨p, o + z, none⟩ = some (.string qz) ∧ V.cell? ⟨p, o + yb, none⟩ = some (.string qz)) := Lib.hid fun V hV => ⟨hqz _ (h1.trans (hV.mono h1.size)), hqy _ (h1.trans (hV.mono h1.size))⟩
          go_wp2_with fail
          go_region_held3 (fun w' => w'.cell? ⟨p, o + z, none⟩ = some (.string qz) ∧ w'.cell? ⟨p, o + yb, none⟩ = some (.string qz)) (first | exact HS.out _ h8 | exact HS.out _ h8d | exact HS.out _ h9) (first | (go_at_call 11; (with_reducible refine (TB.out _).mono ?_); rintro e w7 ⟨rfl, h90⟩; first | have h9 := h8.trans (h90.mono h8.size) | have h9 := h8d.trans (h90.mono h8d.size)))
          all_goals (try go_wp2)
          all_goals go_ret
          all_goals exact ⟨rfl, h1.trans (h9.mono h1.size)⟩
        · have hm0 : ((b : Int) == 0) = true := beq_iff_eq.2 (by have := HJM.out.1 (by omega); omega)
          have hj0 : decide (J < 0) = true := decide_eq_true (by omega)
          have hj1 : decide (0 ≤ J) = false := decide_eq_false (by omega)
          go_wp2_with fail
          go_quiet (fail)
          go_wp2_with fail
          refine (HCH.out _).mono ?_
          rintro e w5 ⟨rfl, hw5⟩
          have h6 := below_drewT h4 nq
          rw [hw5] at h6
          clear hw5 h4 h5 h5d
          have h7 := h1.trans (h6.mono h1.size)
          have e1 := hqy _ h7
          go_wp2_with fail
          refine (FY.out _ h6).mono ?_
          rintro e w6 ⟨rfl, h8⟩
          replace h8 := h6.trans (h8.mono h6.size)
          clear h6 h7 e1
          have h8d := h8.drew
          have HS : Hid (∀ V, Below w1.heap.size w1 V → V.cell? ⟨p, o + z, none⟩ = some (.string qz) ∧ V.cell? ⟨p, o + yb, none⟩ = some (.string qz)) := Lib.hid fun V hV => ⟨hqz _ (h1.trans (hV.mono h1.size)), hqy _ (h1.trans (hV.mono h1.size))⟩
          go_wp2_with fail
          go_region_held3 (fun w' => w'.cell? ⟨p, o + z, none⟩ = some (.string qz) ∧ w'.cell? ⟨p, o + yb, none⟩ = some (.string qz)) (first | exact HS.out _ h8 | exact HS.out _ h8d | exact HS.out _ h9) (first | (go_at_call 11; (with_reducible refine (TB.out _).mono ?_); rintro e w7 ⟨rfl, h90⟩; first | have h9 := h8.trans (h90.mono h8.size) | have h9 := h8d.trans (h90.mono h8d.size)))
          all_goals (try go_wp2)
          all_goals go_ret
          all_goals exact ⟨rfl, h1.trans (h9.mono h1.size)⟩
end Go.Proofs.Ytggepbkhhnhnkaa
