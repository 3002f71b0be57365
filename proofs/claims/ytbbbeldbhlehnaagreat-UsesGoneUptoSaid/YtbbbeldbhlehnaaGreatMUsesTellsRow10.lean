/- Parts of a proof, laid together. -/
import Derived.PlainAid
import Derived.Test.YtbbbeldbhlehnaaGreatMUsesTellsRow8
set_option linter.unusedSimpArgs false
set_option linter.unusedVariables false
/-! The walk of the reference's letters. -/
section
set_option linter.unusedVariables false
set_option linter.unusedSimpArgs false
namespace Gno
theorem take_snoc (s : ByteArray) (k : Nat) (h : k < s.size) : s.data.toList.take (k + 1) = s.data.toList.take k ++ [s[k]] := by
  rw [List.take_succ_eq_append_getElem (by simpa using h)]; rfl
theorem allLet_no (s : ByteArray) (k : Nat) (h : k < s.size) (hl : isLet (s[k].toNat) = false) : allLet s = false := by
  unfold allLet
  rw [List.all_eq_false]
  exact ⟨s.data.toList[k]'(by simpa using h), List.getElem_mem _, by rw [show (s.data.toList[k]'(by simpa using h)) = s[k] from rfl, hl]; simp⟩
theorem allLet_snoc (s : ByteArray) (k : Nat) (h : k < s.size) (h0 : ((s.data.toList.take k).all fun b => isLet b.toNat) = true) (hl : isLet (s[k].toNat) = true) : ((s.data.toList.take (k + 1)).all fun b => isLet b.toNat) = true := by
  rw [take_snoc s k h, List.all_append, h0]
  simp [hl]
theorem allLet_end (s : ByteArray) (k : Nat) (h : ¬ k < s.size) (h0 : ((s.data.toList.take k).all fun b => isLet b.toNat) = true) : allLet s = true := by
  rw [List.take_of_length_le (by simp; omega)] at h0
  exact h0
end Gno
namespace Go.Proofs.YtbbbeldbhlehnaaGreat
open Go.RowKit Gno

set_option maxHeartbeats 1000000 in
theorem lettersR_any (s : ByteArray) (w : World) (hs : s.size ≤ maxLen) :
    Calls Tryz.prog 59 #[.string s] w fun e w' => e = .returned (.bool (allLet s)) ∧ w = w' := by
  unfold maxLen at hs
  go_enter Tryz.func59, Tryz.ntmps59
  go_wp2
  go_loop [3] (fun i => ∃ k : Nat, k ≤ s.size ∧ i = .int .i64 k ∧ ((s.data.toList.take k).all fun b => isLet b.toNat) = true) (fun i => s.size - (intOf i).toNat)
  case atStart => exact ⟨0, Nat.zero_le _, rfl, by simp⟩
  case round =>
    obtain ⟨k, hk, rfl, h0⟩ := hrel
    have H0 := Lib.hid h0
    clear h0
    have hbt := PlainAid.get_bt s
    have hb0 := PlainAid.bt_nonneg s k
    have hb1 := PlainAid.bt_le s k
    by_cases hlt : k < s.size
    · have hbk := hbt k hlt
      cases hl : isLet (s[k].toNat)
      · have HE := Lib.hid (allLet_no s k hlt hl)
        have hl' : ¬ (65 ≤ s[k].toNat ∧ s[k].toNat ≤ 90) ∧ ¬ (97 ≤ s[k].toNat ∧ s[k].toNat ≤ 122) := by simpa [isLet] using hl
        clear hl
        rw [show (s[k].toNat) = (PlainAid.bt s k).toNat by omega] at hl'
        clear hbk
        by_cases h1 : (65 : Int) ≤ PlainAid.bt s k
        · have h2 : ¬ PlainAid.bt s k ≤ 90 := by omega
          by_cases h3 : (97 : Int) ≤ PlainAid.bt s k
          · have h4 : ¬ PlainAid.bt s k ≤ 122 := by omega
            clear hl'
            go_wp2
            go_ret
            exact ⟨ret_bool HE.out.symm, rfl⟩
          · clear hl'
            go_wp2
            go_ret
            exact ⟨ret_bool HE.out.symm, rfl⟩
        · have h3 : ¬ (97 : Int) ≤ PlainAid.bt s k := by omega
          clear hl'
          go_wp2
          go_ret
          exact ⟨ret_bool HE.out.symm, rfl⟩
      · have HE := Lib.hid (allLet_snoc s k hlt H0.out hl)
        have hl' : (65 ≤ s[k].toNat ∧ s[k].toNat ≤ 90) ∨ (97 ≤ s[k].toNat ∧ s[k].toNat ≤ 122) := by simpa [isLet] using hl
        clear hl
        rw [show (s[k].toNat) = (PlainAid.bt s k).toNat by omega] at hl'
        clear hbk
        have h1 : (65 : Int) ≤ PlainAid.bt s k := by omega
        by_cases h2 : PlainAid.bt s k ≤ 90
        · clear hl'
          go_wp2
          go_round
          case rel => exact ⟨k + 1, by omega, by go_num, HE.out⟩
          case measure => simp [intOf]; omega
        · have h3 : (97 : Int) ≤ PlainAid.bt s k := by omega
          have h4 : PlainAid.bt s k ≤ 122 := by omega
          clear hl'
          go_wp2
          go_round
          case rel => exact ⟨k + 1, by omega, by go_num, HE.out⟩
          case measure => simp [intOf]; omega
    · have HE := Lib.hid (allLet_end s k hlt H0.out)
      go_wp2
      go_ret
      exact ⟨ret_bool HE.out.symm, rfl⟩
end Go.Proofs.YtbbbeldbhlehnaaGreat
end
/-! The walks of data.Name's closures, and of HasSuffix at a byte. -/
section
set_option linter.unusedVariables false
set_option linter.unusedSimpArgs false
namespace Gno
open Go
/-- what may stand in a name. -/
def isNm (n : Nat) : Bool := isLet n || decide (48 ≤ n ∧ n ≤ 57) || decide (n = 47) || decide (n = 95) || decide (n = 43) || decide (n = 45)
def notNm (n : Nat) : Bool := !isNm n
theorem isLet_high (n : Nat) (h : 128 ≤ n) : isLet n = false := by simp [isLet]; omega
theorem notNm_high (r : Nat) (h : 128 ≤ r) : notNm r = true := by simp [notNm, isNm, isLet_high r h]; omega
theorem byte_of (n : Nat) (h : n < 256) : (UInt8.ofNat n).toNat = n := by simp; omega
theorem allLet_first (a : UInt8) (l : List UInt8) (h : isLet a.toNat = false) : allLet ⟨(a :: l).toArray⟩ = false := by
  simp [allLet, h]
theorem valid_low (x : Nat) (h : Utf8.valid (x : Int) = false) : 128 ≤ x := by
  unfold Utf8.valid at h
  simp at h
  omega
theorem allLet_rune (x : Nat) (hx : x ≤ 1114111) : allLet (Utf8.encode (x : Int)) = isLet x := by
  obtain ⟨c, hc⟩ : ∃ c, c = (if Utf8.valid (x : Int) then ((x : Int).toNat) else Utf8.runeError) := ⟨_, rfl⟩
  have hcx : (c = x) ∨ (c = 65533 ∧ 128 ≤ x) := by
    cases hv : Utf8.valid (x : Int)
    · rw [hv] at hc; exact .inr ⟨by rw [hc]; rfl, valid_low x hv⟩
    · rw [hv] at hc; exact .inl (by rw [hc]; simp)
  unfold Utf8.encode
  simp only [← hc]
  by_cases h1 : c < 128
  · rw [if_pos h1]
    have : c = x := by omega
    subst this
    simp only [allLet, List.all_cons, List.all_nil, Bool.and_true]
    rw [byte_of c (by omega)]
  · rw [if_neg h1, isLet_high x (by omega)]
    split
    · exact allLet_first _ _ (isLet_high _ (by rw [byte_of _ (by omega)]; omega))
    · split
      · exact allLet_first _ _ (isLet_high _ (by rw [byte_of _ (by omega)]; omega))
      · exact allLet_first _ _ (isLet_high _ (by rw [byte_of _ (by omega)]; omega))
/-- the last byte. -/
def endsIn (s : ByteArray) (b : Nat) : Bool := decide (1 ≤ s.size ∧ (s.get! (s.size - 1)).toNat = b)
end Gno
namespace Go.Proofs.YtbbbeldbhlehnaaGreat
open Go.RowKit Gno
set_option maxHeartbeats 2000000 in
theorem name1_any (x : Nat) (w : World) (hx : x ≤ 1114111) :
    Calls Tryz.prog 50 #[.int .i32 (x : Int)] w fun e w' => e = .returned (.bool (isNm x)) ∧ Below w.heap.size w w' := by
  have c := letters_any (Utf8.encode (x : Int))
  rw [allLet_rune x hx] at c
  have C := Lib.hid c
  clear c
  obtain ⟨b, hb⟩ : ∃ b, isLet x = b := ⟨_, rfl⟩
  rw [hb] at C
  cases b
  all_goals
    go_enter Tryz.func50, Tryz.ntmps50
    go_wp2_with (go_at_call 51; (with_reducible refine (C.out _).mono ?_); rintro e w1 ⟨rfl, hb1⟩)
    all_goals
      go_ret
      exact ⟨ret_bool (by rw [Bool.eq_iff_iff]; simp [isNm, hb]; try omega), hb1⟩
theorem name2_any (o : Nat) (x : Nat) (w : World) (hx : x ≤ 1114111) (hc : w.cell? ⟨o, 0, none⟩ = some (.func (.func 50) #[] #[])) :
    Calls Tryz.prog 54 #[.int .i32 (x : Int), .pointer (some ⟨o, 0, none⟩)] w fun e w' => e = .returned (.bool (notNm x)) ∧ Below w.heap.size w w' := by
  have C := Lib.hid (fun w => name1_any x w hx)
  clear hx
  obtain ⟨b, hb⟩ : ∃ b, isNm x = b := ⟨_, rfl⟩
  simp only [hb] at C
  have HN : notNm x = !b := by simp [notNm, hb]
  clear hb
  rw [HN]
  clear HN
  go_enter Tryz.func54, Tryz.ntmps54
  go_wp2_with fail
  refine (C.out _).mono ?_
  rintro e w1 ⟨rfl, hb1⟩
  go_wp2
  go_ret
  exact ⟨rfl, hb1⟩
end Go.Proofs.YtbbbeldbhlehnaaGreat
end
