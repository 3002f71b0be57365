/- Tries: the reference's Check. -/
import Derived.Test.YtggepbkhhnhnkaaTrC
import Derived.Deep.QuietTactic
import Derived.BigQuiet
set_option linter.unusedVariables false
set_option linter.unusedSimpArgs false
namespace Gno
open Go
def lastE (l : List Eg) : Nat → Int
  | 0 => -1
  | i + 1 => match l[i]? with
    | some x => x.c
    | none => 0
end Gno
namespace Go.Proofs.Ytggepbkhhnhnkaa
open Go.RowKit Gno
theorem below_drewT {B : Nat} {w W : World} (h : Below B w W) (n : Nat) : Below B w (W.drewN n) := h.trans ⟨rfl, rfl, rfl, Nat.le_refl _, fun _ _ => rfl⟩
theorem withinT_any (n lo hi : Int) (w : World) :
    Calls Try.prog 24 #[.int .i64 n, .int .i64 lo, .int .i64 hi] w fun e w' => e = .returned (.bool (decide (lo ≤ n ∧ n ≤ hi))) ∧ w = w' := by
  by_cases h1 : lo ≤ n
  · by_cases h2 : n ≤ hi
    · have HX : decide (lo ≤ n ∧ n ≤ hi) = true := by simp [h1, h2]
      rw [HX]
      clear HX
      go_enter Try.func24, Try.ntmps24
      go_wp2
      go_ret
      exact ⟨by simp [h2], rfl⟩
    · have HX : decide (lo ≤ n ∧ n ≤ hi) = false := by simp [h2]
      rw [HX]
      clear HX
      go_enter Try.func24, Try.ntmps24
      go_wp2
      go_ret
      exact ⟨by simp [h2], rfl⟩
  · have HX : decide (lo ≤ n ∧ n ≤ hi) = false := by simp [h1]
    rw [HX]
    clear HX
    go_enter Try.func24, Try.ntmps24
    go_wp2
    go_ret
    exact ⟨by simp, rfl⟩
set_option maxHeartbeats 8000000 in
theorem checkR_any (t : List Nd) (A : Option Addr) (n cap : Nat) (w : World) (hT : NodesAt w w.heap.size A n t) :
    Calls Try.prog 13 #[.slice A n cap] w fun e w' => e = .returned (.int .i64 (trieE t)) ∧ Below w.heap.size w w' := by
  have hnl : n ≤ 9223372036854775807 := hT.2.1
  have HT := Lib.hid hT
  have HN : Hid (t.length = n) := Lib.hid hT.1
  clear hT
  by_cases h0 : n = 0
  · have HX : Hid (1 = trieE t) := Lib.hid (trieE_no (trieOk_nil (HN.out.trans h0))).symm
    subst h0
    go_enter Try.func13, Try.ntmps13
    go_wp2
    go_ret
    exact ⟨retO_i HX.out, Below.refl _ _⟩
  · have hpos : 0 < n := by omega
    have hn0 : ((n : Int) == 0) = false := by rw [beq_eq_false_iff_ne]; omega
    clear h0
    go_enter Try.func13, Try.ntmps13
    go_wp2
    go_loopw [3] (fun s3 wr => ∃ k : Nat, k ≤ n ∧ s3 = .int .i64 k ∧ Hid (trieOk t = ndsOk n k (t.drop k)) ∧ Below w.heap.size w wr) (fun s3 _ => n - (intOf s3).toNat)
    case atStart => exact ⟨0, Nat.zero_le _, rfl, Lib.hid (by rw [trie_start (by rw [HN.out]; exact hpos), HN.out]), Below.refl _ _⟩
    case round =>
      obtain ⟨k, hk, rfl, hI, hb⟩ := hrel
      have hz := hb.size
      by_cases hlt : k < n
      · obtain ⟨b, o, q, hA, hbB, hq, A2, cap2, hqq⟩ := nodes_get HT.out hlt
        subst hA
        obtain ⟨e0, e1, _⟩ := hqq _ hb
        have hE := (hqq w (Below.refl _ _)).2.2
        have HE := Lib.hid hE
        have HQ : Hid (∀ W, Below w.heap.size w W → W.cell? ⟨b, o + k * 2, none⟩ = some (.slice A2 q.es.length cap2)) := Lib.hid fun W h => (hqq W h).1
        have HI2 : Hid (trieOk t = (decide (-1 ≤ q.word) && (edOk k n (-1) (q.es.drop 0) && ndsOk n (k + 1) (t.drop (k + 1))))) := Lib.hid (hI.out.trans (nds_at _ hq))
        have hml : q.es.length ≤ 9223372036854775807 := hE.2.1
        obtain ⟨m, hm⟩ : ∃ m, m = q.es.length := ⟨_, rfl⟩
        have HM := Lib.hid hm
        rw [← hm] at e0 hml HE HQ
        clear hm hq hqq hI hE
        by_cases hw : q.word < -1
        · have HX : Hid (1 = trieE t) := Lib.hid (trieE_no (by rw [HI2.out, decide_eq_false (by omega)]; rfl)).symm
          clear HI2
          go_wp2
          go_ret
          exact ⟨retO_i HX.out, hb⟩
        · have HI3 : Hid (trieOk t = (edOk k n (lastE q.es 0) (q.es.drop 0) && ndsOk n (k + 1) (t.drop (k + 1)))) := Lib.hid (HI2.out.trans (by rw [decide_eq_true (show -1 ≤ q.word by omega)]; rfl))
          clear HI2
          obtain ⟨wo, hwo⟩ : ∃ wo : World, wo = wr := ⟨_, rfl⟩
          rw [← hwo] at hb hz e0 e1
          rw [← hwo]
          clear hwo
          go_wp2
          clear e0 e1
          go_loopw [4] (fun s4 wr => ∃ (i : Nat), i ≤ m ∧ s4 = .int .i64 i ∧ Hid (trieOk t = (edOk k n (lastE q.es i) (q.es.drop i) && ndsOk n (k + 1) (t.drop (k + 1)))) ∧ Below w.heap.size w wr) (fun s4 _ => m - (intOf s4).toNat)
          case atStart => exact ⟨0, Nat.zero_le _, rfl, HI3, hb⟩
          case round =>
            obtain ⟨i, hi, rfl, hJ, hb2⟩ := hrel
            have hz2 := hb2.size
            have e0 := HQ.out _ hb2
            by_cases hit : i < m
            · obtain ⟨b2, o2, x, hA2, hbB2, hx, hxc, hxx⟩ := edges_get HE.out hit
              subst hA2
              obtain ⟨f0, f1⟩ := hxx _ hb2
              have HJ := Lib.hid (hJ.out.trans (by rw [ed_at _ _ _ hx]))
              have hb3 : Below w.heap.size w (wr.alloc (.cells #[.int .u8 x.c, .int .i64 x.to] 54)) := hb2.alloc hz2 _
              have e0' := HQ.out _ hb3
              have HX2 := Lib.hid hxx
              have HLx : Hid (lastE q.es (i + 1) = x.c) := Lib.hid (by rw [lastE, hx])
              clear hx hxx hJ
              by_cases g1 : (k : Int) + 1 ≤ x.to ∧ x.to ≤ (n : Int) - 1
              · have W1 : Hid (∀ w, Calls Try.prog 24 #[.int .i64 x.to, .int .i64 ((k : Int) + 1), .int .i64 ((n : Int) - 1)] w fun e w' => e = .returned (.bool true) ∧ w = w') := Lib.hid fun w => by have := withinT_any x.to ((k : Int) + 1) ((n : Int) - 1) w; rwa [decide_eq_true g1] at this
                have HK := Lib.hid (HJ.out.trans (by rw [decide_eq_true (show (k : Int) < x.to by omega), decide_eq_true (show x.to < (n : Int) by omega), Bool.true_and, Bool.true_and]))
                clear HJ g1
                by_cases hi0 : 0 < i
                · obtain ⟨b4, o4, y, hA4, hbB4, hy, hyc, hyy⟩ := edges_get HE.out (i := i - 1) (by omega)
                  obtain rfl : b2 = b4 := by injection hA4 with h; injection h
                  obtain rfl : o2 = o4 := by injection hA4 with h; injection h
                  obtain ⟨y0, y1⟩ := hyy _ hb3
                  have HL : Hid (lastE q.es i = y.c) := Lib.hid (by rw [show i = (i - 1) + 1 by omega, lastE, hy])
                  have hg : decide ((0 : Int) < (i : Int)) = true := decide_eq_true (by omega)
                  have hix : ((i : Int) - 1).toNat = i - 1 := by omega
                  have hix0 : 0 ≤ (i : Int) - 1 := by omega
                  have hix1 : 1 ≤ (i : Int) := by omega
                  have hix2 : (i : Int) - 1 < (m : Int) := by omega
                  clear hy hyy hA4
                  by_cases g3 : x.c ≤ y.c
                  · have HX : Hid (1 = trieE t) := Lib.hid (trieE_no (by rw [HK.out, decide_eq_false (show ¬ lastE q.es i < (x.c : Int) by rw [HL.out]; omega)]; rfl)).symm
                    clear HK
                    go_wp2
                    go_quiet ((go_at_call 24; exact Calls.quiet_of_same ((W1.out _).mono fun _ _ h => ⟨h.1, h.2.symm⟩)))
                    go_wp2
                    go_ret
                    exact ⟨retO_i HX.out, below_drewT hb3 _⟩
                  · have HX : Hid (trieOk t = (edOk k n x.c (q.es.drop (i + 1)) && ndsOk n (k + 1) (t.drop (k + 1)))) := Lib.hid (HK.out.trans (by rw [decide_eq_true (show lastE q.es i < (x.c : Int) by rw [HL.out]; omega)]; rfl))
                    clear HK
                    go_wp2
                    go_quiet ((go_at_call 24; exact Calls.quiet_of_same ((W1.out _).mono fun _ _ h => ⟨h.1, h.2.symm⟩)))
                    go_wp2
                    go_roundw
                    case rel => exact ⟨i + 1, by omega, by go_num, by rw [HLx.out]; exact HX, below_drewT hb3 _⟩
                    case measure => simp [intOf]; omega
                · have HX : Hid (trieOk t = (edOk k n x.c (q.es.drop (i + 1)) && ndsOk n (k + 1) (t.drop (k + 1)))) := Lib.hid (HK.out.trans (by
                    obtain rfl : i = 0 := by omega
                    rw [decide_eq_true (show lastE q.es 0 < (x.c : Int) by show (-1 : Int) < _; omega)]; rfl))
                  have hg : decide ((0 : Int) < (i : Int)) = false := decide_eq_false (by omega)
                  clear HK
                  go_wp2
                  go_quiet ((go_at_call 24; exact Calls.quiet_of_same ((W1.out _).mono fun _ _ h => ⟨h.1, h.2.symm⟩)))
                  go_wp2
                  go_roundw
                  case rel => exact ⟨i + 1, by omega, by go_num, by rw [HLx.out]; exact HX, below_drewT hb3 _⟩
                  case measure => simp [intOf]; omega
              · have W1 : Hid (∀ w, Calls Try.prog 24 #[.int .i64 x.to, .int .i64 ((k : Int) + 1), .int .i64 ((n : Int) - 1)] w fun e w' => e = .returned (.bool false) ∧ w = w') := Lib.hid fun w => by have := withinT_any x.to ((k : Int) + 1) ((n : Int) - 1) w; rwa [decide_eq_false g1] at this
                have HX : Hid (1 = trieE t) := Lib.hid (trieE_no (by
                  rw [HJ.out]
                  by_cases q1 : (k : Int) < x.to
                  · rw [decide_eq_false (show ¬ x.to < (n : Int) by omega)]; simp
                  · rw [decide_eq_false q1]; rfl)).symm
                clear HJ g1
                go_wp2
                go_quiet ((go_at_call 24; exact Calls.quiet_of_same ((W1.out _).mono fun _ _ h => ⟨h.1, h.2.symm⟩)))
                go_wp2
                go_ret
                exact ⟨retO_i HX.out, below_drewT hb3 _⟩
            · have HX : Hid (trieOk t = ndsOk n (k + 1 : Nat) (t.drop (k + 1))) := Lib.hid (hJ.out.trans (by rw [ed_end _ _ _ (by rw [← HM.out]; omega)]; rfl))
              clear hJ
              go_wp2
              go_roundw
              case rel => exact ⟨k + 1, by omega, by go_num, HX, hb2⟩
              case measure => simp [intOf]; omega
      · have HX : Hid (0 = trieE t) := Lib.hid (trieE_yes (by rw [hI.out, nds_end _ (by rw [HN.out]; omega)])).symm
        clear hI
        go_wp2
        go_ret
        exact ⟨retO_i HX.out, hb⟩
end Go.Proofs.Ytggepbkhhnhnkaa
