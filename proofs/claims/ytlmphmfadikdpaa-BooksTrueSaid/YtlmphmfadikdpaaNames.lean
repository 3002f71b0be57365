/- The walks of data.Name's closures, and of HasSuffix at a byte. -/
import Derived.Test.YtlmphmfadikdpaaLetters2
set_option linter.unusedVariables false
namespace Gno
open Go
/-- what may stand in a name. -/
def isNm (n : Nat) : Bool := isLet n || decide (48 ≤ n ∧ n ≤ 57) || decide (n = 47) || decide (n = 95) || decide (n = 43) || decide (n = 45)
def notNm (n : Nat) : Bool := !isNm n
theorem isLet_high (n : Nat) (h : 128 ≤ n) : isLet n = false := by simp [isLet]; omega
theorem notNm_high (r : Nat) (h : 128 ≤ r) : notNm r = true := by simp [notNm, isNm, isLet_high r h]; omega
theorem byte_of (n : Nat) (h : n < 256) : (UInt8.ofNat n).toNat = n := by simp; omega
theorem allLet_first (a : UInt8) (l : List UInt8) (h : isLet a.toNat = false) : allLet ⟨(a :: l).toArray⟩ = false := by
  simp [allLet, h]
theorem valid_low (x : Nat) (h : Utf8.valid (x : Int) = false) : 128 ≤ x := by
  unfold Utf8.valid at h
  simp at h
  omega
theorem allLet_rune (x : Nat) (hx : x ≤ 1114111) : allLet (Utf8.encode (x : Int)) = isLet x := by
  obtain ⟨c, hc⟩ : ∃ c, c = (if Utf8.valid (x : Int) then ((x : Int).toNat) else Utf8.runeError) := ⟨_, rfl⟩
  have hcx : (c = x) ∨ (c = 65533 ∧ 128 ≤ x) := by
    cases hv : Utf8.valid (x : Int)
    · rw [hv] at hc; exact .inr ⟨by rw [hc]; rfl, valid_low x hv⟩
    · rw [hv] at hc; exact .inl (by rw [hc]; simp)
  unfold Utf8.encode
  simp only [← hc]
  by_cases h1 : c < 128
  · rw [if_pos h1]
    have : c = x := by omega
    subst this
    simp only [allLet, List.all_cons, List.all_nil, Bool.and_true]
    rw [byte_of c (by omega)]
  · rw [if_neg h1, isLet_high x (by omega)]
    split
    · exact allLet_first _ _ (isLet_high _ (by rw [byte_of _ (by omega)]; omega))
    · split
      · exact allLet_first _ _ (isLet_high _ (by rw [byte_of _ (by omega)]; omega))
      · exact allLet_first _ _ (isLet_high _ (by rw [byte_of _ (by omega)]; omega))
/-- the last byte. -/
def endsIn (s : ByteArray) (b : Nat) : Bool := decide (1 ≤ s.size ∧ (s.get! (s.size - 1)).toNat = b)
end Gno
namespace Go.Proofs.Ytlmphmfadikdpaa
open Go.RowKit Gno
set_option maxHeartbeats 2000000 in
theorem name1_any (x : Nat) (w : World) (hx : x ≤ 1114111) :
    Calls Try.prog 75 #[.int .i32 (x : Int)] w fun e w' => e = .returned (.bool (isNm x)) ∧ Below w.heap.size w w' := by
  have c := letters_any (Utf8.encode (x : Int))
  rw [allLet_rune x hx] at c
  have C := Lib.hid c
  clear c
  obtain ⟨b, hb⟩ : ∃ b, isLet x = b := ⟨_, rfl⟩
  rw [hb] at C
  cases b
  all_goals
    go_enter Try.func75, Try.ntmps75
    go_wp2_with (go_at_call 68; (with_reducible refine (C.out _).mono ?_); rintro e w1 ⟨rfl, hb1⟩)
    all_goals
      go_ret
      exact ⟨ret_bool (by rw [Bool.eq_iff_iff]; simp [isNm, hb]; try omega), hb1⟩
theorem name2_any (o : Nat) (x : Nat) (w : World) (hx : x ≤ 1114111) (hc : w.cell? ⟨o, 0, none⟩ = some (.func (.func 75) #[] #[])) :
    Calls Try.prog 78 #[.int .i32 (x : Int), .pointer (some ⟨o, 0, none⟩)] w fun e w' => e = .returned (.bool (notNm x)) ∧ Below w.heap.size w w' := by
  have C := Lib.hid (fun w => name1_any x w hx)
  clear hx
  obtain ⟨b, hb⟩ : ∃ b, isNm x = b := ⟨_, rfl⟩
  simp only [hb] at C
  have HN : notNm x = !b := by simp [notNm, hb]
  clear hb
  rw [HN]
  clear HN
  go_enter Try.func78, Try.ntmps78
  go_wp2_with fail
  refine (C.out _).mono ?_
  rintro e w1 ⟨rfl, hb1⟩
  go_wp2
  go_ret
  exact ⟨rfl, hb1⟩
end Go.Proofs.Ytlmphmfadikdpaa
