/- The reference's digits. -/
import Derived.Test.YtggepbkhhnhnkaaDoorRows
import Derived.WalkKit
import Derived.WalkSpells
import Derived.WalkLawsBesides
import Derived.Handy
import Derived.Lib.Hide
import Derived.Laws.IdiomStrings
import Derived.Test.YtggepbkhhnhnkaaDoorOfP
set_option linter.unusedVariables false
set_option linter.unusedSimpArgs false
namespace Gno
open Go
theorem nu_low {n : Nat} (h : n < 10) : nuL n = [UInt8.ofNat (48 + n)] := by unfold nuL; rw [if_pos h]
theorem nu_app {n : Nat} (h1 : ¬ n < 10) (h : n < 100) : B (nuL (n / 10)) ++ B [UInt8.ofNat (48 + n % 10)] = B (nuL n) := by
  rw [B_app, nu_low (n := n / 10) (by omega)]
  conv => rhs; unfold nuL; rw [if_neg h1]
  rfl
end Gno
namespace Go.Proofs.YtggepbkhhnhnkaaDoor
open Go.RowKit Gno
theorem retO_str {a b : ByteArray} (h : a = b) : Ending.returned (.string a) = .returned (.string b) := by rw [h]
theorem retO_pair {a b : ByteArray} {v : Value} (h : a = b) : Ending.returned (.tuple #[.string a, v]) = .returned (.tuple #[.string b, v]) := by rw [h]
theorem withinO_any (n lo hi : Int) (w : World) :
    Calls Tryd.prog 15 #[.int .i64 n, .int .i64 lo, .int .i64 hi] w fun e w' => e = .returned (.bool (decide (lo ≤ n ∧ n ≤ hi))) ∧ w = w' := by
  by_cases h1 : lo ≤ n
  · by_cases h2 : n ≤ hi
    · have HX : decide (lo ≤ n ∧ n ≤ hi) = true := by simp [h1, h2]
      rw [HX]
      clear HX
      go_enter Tryd.func15, Tryd.ntmps15
      go_wp2
      go_ret
      exact ⟨by simp [h2], rfl⟩
    · have HX : decide (lo ≤ n ∧ n ≤ hi) = false := by simp [h2]
      rw [HX]
      clear HX
      go_enter Tryd.func15, Tryd.ntmps15
      go_wp2
      go_ret
      exact ⟨by simp [h2], rfl⟩
  · have HX : decide (lo ≤ n ∧ n ≤ hi) = false := by simp [h1]
    rw [HX]
    clear HX
    go_enter Tryd.func15, Tryd.ntmps15
    go_wp2
    go_ret
    exact ⟨by simp, rfl⟩
/-- string([]byte{byte('0' + n%10)}) -/
theorem last_digit (n : Nat) (w : World) : (convert 48 9 (.slice (some ⟨w.heap.size, 0, none⟩) 1 1)).run Tryd.prog (w.alloc (.cells #[.int .u8 (48 + (n : Int) % 10)] 5)) = .ok (.string (B [UInt8.ofNat (48 + n % 10)])) (w.alloc (.cells #[.int .u8 (48 + (n : Int) % 10)] 5)) :=
  run_convert_bytes_back (w.alloc (.cells #[.int .u8 (48 + (n : Int) % 10)] 5)) 48 9 5 ⟨w.heap.size, 0, none⟩ 1 [UInt8.ofNat (48 + n % 10)] Tryd.underlying48 Tryd.underlying5 Tryd.underlying9 (fun j hj => by
    have : j = 0 := by simpa using hj
    subst this
    have e : (UInt8.ofNat (48 + n % 10)).toNat = 48 + n % 10 := by simp; omega
    have h := cell_one_new w (.int .u8 (48 + (n : Int) % 10)) 5
    show (w.alloc (.cells #[.int .u8 (48 + (n : Int) % 10)] 5)).cell? ⟨w.heap.size, 0 + 0, none⟩ = some (.int .u8 (((UInt8.ofNat (48 + n % 10)).toNat : Nat) : Int))
    rw [e]
    have e2 : (((48 + n % 10 : Nat)) : Int) = 48 + (n : Int) % 10 := by omega
    rw [e2]
    exact h 0 _ rfl)
theorem last_hid (n : Nat) (w : World) : ∃ s, s = B [UInt8.ofNat (48 + n % 10)] ∧ (convert 48 9 (.slice (some ⟨w.heap.size, 0, none⟩) 1 1)).run Tryd.prog (w.alloc (.cells #[.int .u8 (48 + (n : Int) % 10)] 5)) = .ok (.string s) (w.alloc (.cells #[.int .u8 (48 + (n : Int) % 10)] 5)) := ⟨_, rfl, last_digit n w⟩
theorem u8_of (n : Nat) (h : n < 10) : ((48 + (n : Int) % 10) : Int) = 48 + n := by omega
set_option maxHeartbeats 4000000 in
theorem digits_low (n : Nat) (h : n < 10) (w : World) : Calls Tryd.prog 17 #[.int .i64 n] w fun e w' => e = .returned (.string (B (nuL n))) ∧ Below w.heap.size w w' := by
  obtain ⟨s, hs, HC⟩ := last_hid n w
  have HB : Hid (Below w.heap.size w (w.alloc (.cells #[.int .u8 (48 + (n : Int) % 10)] 5))) := Lib.hid ((Below.refl _ w).alloc (Nat.le_refl _) _)
  have HX : Hid (s = B (nuL n)) := Lib.hid (by rw [hs, nu_low h, Nat.mod_eq_of_lt h])
  clear hs
  go_enter Tryd.func17, Tryd.ntmps17
  go_wp2
  go_ret
  exact ⟨retO_str HX.out, HB.out⟩
set_option maxHeartbeats 4000000 in
theorem digits_any (n : Nat) (h : n < 100) (w : World) : Calls Tryd.prog 17 #[.int .i64 n] w fun e w' => e = .returned (.string (B (nuL n))) ∧ Below w.heap.size w w' := by
  by_cases h1 : n < 10
  · exact digits_low n h1 w
  · obtain ⟨s, hs, HC⟩ := last_hid n w
    have HB : Hid (Below w.heap.size w (w.alloc (.cells #[.int .u8 (48 + (n : Int) % 10)] 5))) := Lib.hid ((Below.refl _ w).alloc (Nat.le_refl _) _)
    have C := Lib.hid (fun w => digits_low (n / 10) (by omega) w)
    rw [show (((n / 10 : Nat)) : Int) = (n : Int) / 10 by omega] at C
    obtain ⟨a, ha⟩ : ∃ a, a = B (nuL (n / 10)) := ⟨_, rfl⟩
    have HX : Hid (a ++ s = B (nuL n)) := Lib.hid (by rw [ha, hs]; exact nu_app h1 h)
    have hs1 : a.size ≤ 2 := by rw [ha, nu_low (by omega), B_size]; simp
    have hs2 : s.size = 1 := by rw [hs, B_size]; rfl
    rw [← ha] at C
    clear ha hs
    go_enter Tryd.func17, Tryd.ntmps17
    go_wp2_with (go_at_call 17; (with_reducible refine (C.out _).mono ?_); rintro e w1 ⟨rfl, hb1⟩)
    go_ret
    exact ⟨retO_str HX.out, HB.out.trans (hb1.mono HB.out.size)⟩
end Go.Proofs.YtggepbkhhnhnkaaDoor
