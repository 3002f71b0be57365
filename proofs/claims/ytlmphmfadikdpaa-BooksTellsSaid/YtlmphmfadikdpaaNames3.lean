/- The walk of the reference's IsName. -/
import Derived.Test.YtlmphmfadikdpaaNames2
import Derived.Test.YtlmphmfadikdpaaDays4
set_option linter.unusedVariables false
namespace Gno
theorem isNm_no {v : Int} (h0 : 0 ≤ v) (h : isNm v.toNat = false) : isLet v.toNat = false ∧ ¬ (48 ≤ v ∧ v ≤ 57) ∧ v ≠ 47 ∧ v ≠ 95 ∧ v ≠ 43 ∧ v ≠ 45 := by
  simp only [isNm, Bool.or_eq_false_iff, decide_eq_false_iff_not] at h
  obtain ⟨⟨⟨⟨⟨a, b⟩, c⟩, d⟩, e⟩, f⟩ := h
  exact ⟨a, by omega, by omega, by omega, by omega, by omega⟩
theorem isNm_yes {v : Int} (h0 : 0 ≤ v) (h : isNm v.toNat = true) (hl : isLet v.toNat = false) : (48 ≤ v ∧ v ≤ 57) ∨ v = 47 ∨ v = 95 ∨ v = 43 ∨ v = 45 := by
  simp [isNm, hl] at h
  omega
end Gno
namespace Go.Proofs.Ytlmphmfadikdpaa
open Go.RowKit Gno
set_option maxRecDepth 100000 in
set_option maxHeartbeats 4000000 in
theorem isName_any (s : ByteArray) (w : World) (hs : s.size ≤ maxLen) :
    Calls Try.prog 61 #[.string s] w fun e w' => e = .returned (.bool (nameOk s)) ∧ w = w' := by
  unfold maxLen at hs
  have SZ := Lib.hid (nameOk_size s)
  have OK := Lib.hid (fun h1 h2 (a b c : Bool) ha hb hc => nameOk_is s h1 h2 (a := a) (b := b) (c := c) ha hb hc)
  have W := Lib.hid (fun w => within_any (s.size : Int) 1 12 w)
  by_cases h1 : 1 ≤ s.size
  · by_cases h2 : s.size ≤ 12
    · have hw : withinB (s.size : Int) 1 12 = true := (withinB_iff _ _ _).2 (by omega)
      rw [hw] at W
      have C1 := Lib.hid (fun w => lettersR_any (s.extract 0 1) w (by simp [maxLen]; omega))
      have HX := Lib.hid (OK.out h1 h2 _ _ _ rfl rfl rfl)
      obtain ⟨a, ha⟩ : ∃ a, a = allLet (s.extract 0 1) := ⟨_, rfl⟩
      rw [← ha] at C1 HX
      have hbt := PlainAid.get_bt s
      have he : ends s 47 = decide (PlainAid.bt s (s.size - 1) = 47) := by simp [ends, h1]
      rw [he] at HX
      clear SZ OK hw ha he
      cases a
      · go_enter Try.func61, Try.ntmps61
        go_wp2_with (first
          | (go_at_call 47; (with_reducible refine (W.out _).mono ?_); rintro e w1 ⟨rfl, rfl⟩)
          | (go_at_call 69; (with_reducible refine (C1.out _).mono ?_); rintro e w1 ⟨rfl, rfl⟩))
        go_ret
        exact ⟨ret_bool (by rw [HX.out] <;> simp), rfl⟩
      · by_cases hz : PlainAid.bt s (s.size - 1) = 47
        · go_enter Try.func61, Try.ntmps61
          go_wp2_with (first
            | (go_at_call 47; (with_reducible refine (W.out _).mono ?_); rintro e w1 ⟨rfl, rfl⟩)
            | (go_at_call 69; (with_reducible refine (C1.out _).mono ?_); rintro e w1 ⟨rfl, rfl⟩))
          go_ret
          exact ⟨ret_bool (by rw [HX.out] <;> simp [hz]), rfl⟩
        · have HY : Hid (nameOk s = allNm s) := Lib.hid (by rw [HX.out]; simp [hz])
          have hzb : (PlainAid.bt s (s.size - 1) == 47) = false := by simpa using hz
          clear HX hz
          go_enter Try.func61, Try.ntmps61
          go_wp2_with (first
            | (go_at_call 47; (with_reducible refine (W.out _).mono ?_); rintro e w1 ⟨rfl, rfl⟩)
            | (go_at_call 69; (with_reducible refine (C1.out _).mono ?_); rintro e w1 ⟨rfl, rfl⟩))
          try simp only [hzb]
          clear hzb
          go_loop [3] (fun i => ∃ k : Nat, k ≤ s.size ∧ i = .int .i64 k ∧ nmTo s k) (fun i => s.size - (intOf i).toNat)
          case atStart => exact ⟨0, Nat.zero_le _, rfl, by simp [nmTo]⟩
          case round =>
            obtain ⟨k, hk, rfl, h0⟩ := hrel
            have H0 := Lib.hid h0
            clear h0
            by_cases hlt : k < s.size
            · have l1 := fun w => lettersR_any (s.extract k (k + 1)) w (by simp [maxLen]; omega)
              rw [allLet_one s k hlt] at l1
              have L1 := Lib.hid l1
              have hb0 := PlainAid.bt_nonneg s k
              have hb1 := PlainAid.bt_le s k
              have HN := Lib.hid (nmTo_snoc s k hlt H0.out)
              have HO := Lib.hid (allNm_no s k hlt)
              clear l1
              cases hn : isNm (PlainAid.bt s k).toNat
              · have HE := Lib.hid (HY.out.trans (HO.out hn))
                obtain ⟨q0, q1, q2, q3, q4, q5⟩ := isNm_no hb0 hn
                rw [q0] at L1
                clear hn q0
                have b2 : (PlainAid.bt s k != 47) = true := by simpa using q2
                have b3 : (PlainAid.bt s k != 95) = true := by simpa using q3
                have b4 : (PlainAid.bt s k != 43) = true := by simpa using q4
                have b5 : (PlainAid.bt s k != 45) = true := by simpa using q5
                clear q2 q3 q4 q5
                by_cases q6 : 48 ≤ PlainAid.bt s k
                · have q7 : decide (PlainAid.bt s k ≤ 57) = false := by simp; omega
                  clear q1
                  go_wp2_with (first | (go_at_call 69; (with_reducible refine (L1.out _).mono ?_); rintro e w1 ⟨rfl, rfl⟩))
                  go_ret
                  exact ⟨ret_bool HE.out.symm, rfl⟩
                · clear q1
                  go_wp2_with (first | (go_at_call 69; (with_reducible refine (L1.out _).mono ?_); rintro e w1 ⟨rfl, rfl⟩))
                  go_ret
                  exact ⟨ret_bool HE.out.symm, rfl⟩
              · have HE := Lib.hid (HN.out hn)
                cases hl : isLet (PlainAid.bt s k).toNat
                · have q := isNm_yes hb0 hn hl
                  rw [hl] at L1
                  clear hn hl
                  by_cases q1 : 48 ≤ PlainAid.bt s k ∧ PlainAid.bt s k ≤ 57
                  · obtain ⟨q2, q3⟩ := q1
                    clear q
                    go_wp2_with (first | (go_at_call 69; (with_reducible refine (L1.out _).mono ?_); rintro e w1 ⟨rfl, rfl⟩))
                    go_round
                    case rel => exact ⟨k + 1, by omega, by go_num, HE.out⟩
                    case measure => simp [intOf]; omega
                  · have q2 := q.resolve_left q1
                    clear q q1
                    rcases q2 with q2 | q2 | q2 | q2
                    · have f0 : ¬ 48 ≤ PlainAid.bt s k := by omega
                      have f2 : (PlainAid.bt s k != 47) = false := by simp; omega
                      clear q2
                      go_wp2_with (first | (go_at_call 69; (with_reducible refine (L1.out _).mono ?_); rintro e w1 ⟨rfl, rfl⟩))
                      go_round
                      case rel => exact ⟨k + 1, by omega, by go_num, HE.out⟩
                      case measure => simp [intOf]; omega
                    · have f0 : 48 ≤ PlainAid.bt s k := by omega
                      have f1 : decide (PlainAid.bt s k ≤ 57) = false := by simp; omega
                      have f2 : (PlainAid.bt s k != 47) = true := by simp; omega
                      have f3 : (PlainAid.bt s k != 95) = false := by simp; omega
                      clear q2
                      go_wp2_with (first | (go_at_call 69; (with_reducible refine (L1.out _).mono ?_); rintro e w1 ⟨rfl, rfl⟩))
                      go_round
                      case rel => exact ⟨k + 1, by omega, by go_num, HE.out⟩
                      case measure => simp [intOf]; omega
                    · have f0 : ¬ 48 ≤ PlainAid.bt s k := by omega
                      have f2 : (PlainAid.bt s k != 47) = true := by simp; omega
                      have f3 : (PlainAid.bt s k != 95) = true := by simp; omega
                      have f4 : (PlainAid.bt s k != 43) = false := by simp; omega
                      clear q2
                      go_wp2_with (first | (go_at_call 69; (with_reducible refine (L1.out _).mono ?_); rintro e w1 ⟨rfl, rfl⟩))
                      go_round
                      case rel => exact ⟨k + 1, by omega, by go_num, HE.out⟩
                      case measure => simp [intOf]; omega
                    · have f0 : ¬ 48 ≤ PlainAid.bt s k := by omega
                      have f2 : (PlainAid.bt s k != 47) = true := by simp; omega
                      have f3 : (PlainAid.bt s k != 95) = true := by simp; omega
                      have f4 : (PlainAid.bt s k != 43) = true := by simp; omega
                      have f5 : (PlainAid.bt s k != 45) = false := by simp; omega
                      clear q2
                      go_wp2_with (first | (go_at_call 69; (with_reducible refine (L1.out _).mono ?_); rintro e w1 ⟨rfl, rfl⟩))
                      go_round
                      case rel => exact ⟨k + 1, by omega, by go_num, HE.out⟩
                      case measure => simp [intOf]; omega
                · rw [hl] at L1
                  clear hn hl
                  go_wp2_with (first | (go_at_call 69; (with_reducible refine (L1.out _).mono ?_); rintro e w1 ⟨rfl, rfl⟩))
                  go_round
                  case rel => exact ⟨k + 1, by omega, by go_num, HE.out⟩
                  case measure => simp [intOf]; omega
            · have HE := Lib.hid (HY.out.trans (nmTo_end s k hlt H0.out))
              go_wp2
              go_ret
              exact ⟨ret_bool HE.out.symm, rfl⟩
    · have hw : withinB (s.size : Int) 1 12 = false := (withinB_no _ _ _).2 (by omega)
      rw [hw] at W
      have HX := Lib.hid (SZ.out (by omega))
      clear SZ OK hw
      go_enter Try.func61, Try.ntmps61
      go_wp2_with (go_at_call 47; (with_reducible refine (W.out _).mono ?_); rintro e w1 ⟨rfl, rfl⟩)
      go_ret
      exact ⟨ret_bool HX.out.symm, rfl⟩
  · have hw : withinB (s.size : Int) 1 12 = false := (withinB_no _ _ _).2 (by omega)
    rw [hw] at W
    have HX := Lib.hid (SZ.out (by omega))
    clear SZ OK hw
    go_enter Try.func61, Try.ntmps61
    go_wp2_with (go_at_call 47; (with_reducible refine (W.out _).mono ?_); rintro e w1 ⟨rfl, rfl⟩)
    go_ret
    exact ⟨ret_bool HX.out.symm, rfl⟩
end Go.Proofs.Ytlmphmfadikdpaa
