/- The walk of the reference's letters. -/
import Derived.Test.YtlmphmfadikdpaaLetters
import Derived.PlainAid
set_option linter.unusedVariables false
namespace Gno
theorem take_snoc (s : ByteArray) (k : Nat) (h : k < s.size) : s.data.toList.take (k + 1) = s.data.toList.take k ++ [s[k]] := by
  rw [List.take_succ_eq_append_getElem (by simpa using h)]; rfl
theorem allLet_no (s : ByteArray) (k : Nat) (h : k < s.size) (hl : isLet (s[k].toNat) = false) : allLet s = false := by
  unfold allLet
  rw [List.all_eq_false]
  exact ⟨s.data.toList[k]'(by simpa using h), List.getElem_mem _, by rw [show (s.data.toList[k]'(by simpa using h)) = s[k] from rfl, hl]; simp⟩
theorem allLet_snoc (s : ByteArray) (k : Nat) (h : k < s.size) (h0 : ((s.data.toList.take k).all fun b => isLet b.toNat) = true) (hl : isLet (s[k].toNat) = true) : ((s.data.toList.take (k + 1)).all fun b => isLet b.toNat) = true := by
  rw [take_snoc s k h, List.all_append, h0]
  simp [hl]
theorem allLet_end (s : ByteArray) (k : Nat) (h : ¬ k < s.size) (h0 : ((s.data.toList.take k).all fun b => isLet b.toNat) = true) : allLet s = true := by
  rw [List.take_of_length_le (by simp; omega)] at h0
  exact h0
end Gno
namespace Go.Proofs.Ytlmphmfadikdpaa
open Go.RowKit Gno

set_option maxHeartbeats 1000000 in
theorem lettersR_any (s : ByteArray) (w : World) (hs : s.size ≤ maxLen) :
    Calls Try.prog 69 #[.string s] w fun e w' => e = .returned (.bool (allLet s)) ∧ w = w' := by
  unfold maxLen at hs
  go_enter Try.func69, Try.ntmps69
  go_wp2
  go_loop [3] (fun i => ∃ k : Nat, k ≤ s.size ∧ i = .int .i64 k ∧ ((s.data.toList.take k).all fun b => isLet b.toNat) = true) (fun i => s.size - (intOf i).toNat)
  case atStart => exact ⟨0, Nat.zero_le _, rfl, by simp⟩
  case round =>
    obtain ⟨k, hk, rfl, h0⟩ := hrel
    have H0 := Lib.hid h0
    clear h0
    have hbt := PlainAid.get_bt s
    have hb0 := PlainAid.bt_nonneg s k
    have hb1 := PlainAid.bt_le s k
    by_cases hlt : k < s.size
    · have hbk := hbt k hlt
      cases hl : isLet (s[k].toNat)
      · have HE := Lib.hid (allLet_no s k hlt hl)
        have hl' : ¬ (65 ≤ s[k].toNat ∧ s[k].toNat ≤ 90) ∧ ¬ (97 ≤ s[k].toNat ∧ s[k].toNat ≤ 122) := by simpa [isLet] using hl
        clear hl
        rw [show (s[k].toNat) = (PlainAid.bt s k).toNat by omega] at hl'
        clear hbk
        by_cases h1 : (65 : Int) ≤ PlainAid.bt s k
        · have h2 : ¬ PlainAid.bt s k ≤ 90 := by omega
          by_cases h3 : (97 : Int) ≤ PlainAid.bt s k
          · have h4 : ¬ PlainAid.bt s k ≤ 122 := by omega
            clear hl'
            go_wp2
            go_ret
            exact ⟨ret_bool HE.out.symm, rfl⟩
          · clear hl'
            go_wp2
            go_ret
            exact ⟨ret_bool HE.out.symm, rfl⟩
        · have h3 : ¬ (97 : Int) ≤ PlainAid.bt s k := by omega
          clear hl'
          go_wp2
          go_ret
          exact ⟨ret_bool HE.out.symm, rfl⟩
      · have HE := Lib.hid (allLet_snoc s k hlt H0.out hl)
        have hl' : (65 ≤ s[k].toNat ∧ s[k].toNat ≤ 90) ∨ (97 ≤ s[k].toNat ∧ s[k].toNat ≤ 122) := by simpa [isLet] using hl
        clear hl
        rw [show (s[k].toNat) = (PlainAid.bt s k).toNat by omega] at hl'
        clear hbk
        have h1 : (65 : Int) ≤ PlainAid.bt s k := by omega
        by_cases h2 : PlainAid.bt s k ≤ 90
        · clear hl'
          go_wp2
          go_round
          case rel => exact ⟨k + 1, by omega, by go_num, HE.out⟩
          case measure => simp [intOf]; omega
        · have h3 : (97 : Int) ≤ PlainAid.bt s k := by omega
          have h4 : PlainAid.bt s k ≤ 122 := by omega
          clear hl'
          go_wp2
          go_round
          case rel => exact ⟨k + 1, by omega, by go_num, HE.out⟩
          case measure => simp [intOf]; omega
    · have HE := Lib.hid (allLet_end s k hlt H0.out)
      go_wp2
      go_ret
      exact ⟨ret_bool HE.out.symm, rfl⟩
end Go.Proofs.Ytlmphmfadikdpaa
