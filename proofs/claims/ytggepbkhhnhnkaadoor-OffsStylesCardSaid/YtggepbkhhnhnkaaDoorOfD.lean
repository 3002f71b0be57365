/- Offsets as text: two digits, and how hours and minutes are laid. -/
import Derived.Test.YtggepbkhhnhnkaaDoorOfR3
import Derived.Test.YtggepbkhhnhnkaaDoorShelf
set_option linter.unusedVariables false
set_option linter.unusedSimpArgs false
namespace Gno
open Go
theorem decD_one {n : Nat} (h : n < 10) : Lib.decDigits n = [UInt8.ofNat (48 + n)] := by rw [Lib.decDigits, dif_pos h]
theorem decD_two {n : Nat} (h1 : ¬ n < 10) (h : n < 100) : Lib.decDigits n = twL n := by
  rw [Lib.decDigits, dif_neg h1, decD_one (by omega)]; rfl
theorem decD_nu {n : Nat} (h : n < 100) : Lib.decDigits n = nuL n := by
  unfold nuL
  by_cases h1 : n < 10
  · rw [if_pos h1, decD_one h1]
  · rw [if_neg h1, decD_two h1 h]
theorem tw_low {n : Nat} (h : n < 10) : (⟨#[48]⟩ : ByteArray) ++ B (nuL n) = B (twL n) := by
  have : (⟨#[48]⟩ : ByteArray) = B [48] := rfl
  rw [this, B_app]
  unfold nuL twL
  rw [if_pos h, Nat.div_eq_of_lt h, Nat.mod_eq_of_lt h]
  rfl
theorem nu_high {n : Nat} (h : ¬ n < 10) : nuL n = twL n := by unfold nuL; rw [if_neg h]
theorem nu_size (n : Nat) : (B (nuL n)).size ≤ 2 := by rw [B_size]; unfold nuL; split <;> simp [twL]
theorem tw_size (n : Nat) : (B (twL n)).size = 2 := by rw [B_size]; rfl
end Gno
namespace Go.Proofs.YtggepbkhhnhnkaaDoor
open Go.RowKit Gno
theorem itoa_any (n : Nat) (h : n < 100) (w : World) : Calls Tryd.prog 21 #[.int .i64 n] w fun e w' => e = .returned (.string (B (nuL n))) ∧ w' = w := by
  have := Go.Proofs.Tryd.strconv_Itoa_small n h w
  rw [decD_nu h] at this
  exact this
set_option maxHeartbeats 4000000 in
theorem twoP_any (n : Nat) (h : n < 100) (w : World) : Calls Tryd.prog 19 #[.int .i64 n] w fun e w' => e = .returned (.string (B (twL n))) ∧ w = w' := by
  have C := Lib.hid (fun w => itoa_any n h w)
  by_cases h1 : n < 10
  · have HX := Lib.hid (tw_low h1)
    have hs := nu_size n
    obtain ⟨s, hs0⟩ : ∃ s, s = B (nuL n) := ⟨_, rfl⟩
    rw [← hs0] at C HX hs
    clear hs0
    go_enter Tryd.func19, Tryd.ntmps19
    go_wp2_with (go_at_call 21; (with_reducible refine (C.out _).mono ?_); rintro e w1 ⟨rfl, rfl⟩)
    go_ret
    exact ⟨retO_str HX.out, rfl⟩
  · have HX := Lib.hid (nu_high h1)
    obtain ⟨s, hs0⟩ : ∃ s, s = B (nuL n) := ⟨_, rfl⟩
    rw [← hs0] at C
    have HS : Hid (s = B (twL n)) := Lib.hid (by rw [hs0, HX.out])
    clear hs0 HX
    go_enter Tryd.func19, Tryd.ntmps19
    go_wp2_with (go_at_call 21; (with_reducible refine (C.out _).mono ?_); rintro e w1 ⟨rfl, rfl⟩)
    go_ret
    exact ⟨retO_str HS.out, rfl⟩
theorem two_of (H : Nat) (h : H < 100) (s : ByteArray) (hs : s = B (twL H)) (w : World) : Calls Tryd.prog 19 #[.int .i64 H] w fun e w' => e = .returned (.string s) ∧ w = w' := by
  rw [hs]; exact twoP_any H h w
theorem itoa_of (H : Nat) (h : H < 100) (s : ByteArray) (hs : s = B (nuL H)) (w : World) : Calls Tryd.prog 21 #[.int .i64 H] w fun e w' => e = .returned (.string s) ∧ w = w' := by
  rw [hs]; exact (itoa_any H h w).mono fun e w' ⟨h1, h2⟩ => ⟨h1, h2.symm⟩
set_option maxHeartbeats 4000000 in
theorem wide_any (h m : Nat) (hh : h < 100) (hm : m < 100) (w : World) : Calls Tryd.prog 18 #[.int .i64 h, .int .i64 m] w fun e w' => e = .returned (.string (B (layL 2 h m))) ∧ w = w' := by
  obtain ⟨a, ha⟩ : ∃ a, a = B (twL h) := ⟨_, rfl⟩
  obtain ⟨b, hb⟩ : ∃ b, b = B (twL m) := ⟨_, rfl⟩
  have D1 := Lib.hid (two_of h hh a ha)
  have D2 := Lib.hid (two_of m hm b hb)
  have HX : Hid (a ++ ⟨#[58]⟩ ++ b = B (layL 2 h m)) := Lib.hid (by
    rw [ha, hb]
    show B (twL h) ++ B [58] ++ B (twL m) = _
    rw [B_app, B_app]
    rw [show layL 2 h m = twL h ++ (58 :: twL m) by unfold layL; rw [if_neg (by decide), if_neg (by decide)]]; simp)
  have s1 : a.size ≤ 2 := by rw [ha]; exact tw_le _
  have s2 : b.size ≤ 2 := by rw [hb]; exact tw_le _
  clear ha hb
  go_enter Tryd.func18, Tryd.ntmps18
  go_wp2_with (first | (go_at_call 19; first | ((with_reducible refine (D1.out _).mono ?_); rintro e w1 ⟨rfl, rfl⟩) | ((with_reducible refine (D2.out _).mono ?_); rintro e w2 ⟨rfl, rfl⟩)))
  go_ret
  exact ⟨retO_str HX.out, rfl⟩
theorem wide_4 (h m : Nat) : layL 4 h m = layL 2 h m := rfl
set_option maxHeartbeats 4000000 in
theorem basic_any (h m : Nat) (hh : h < 100) (hm : m < 100) (w : World) : Calls Tryd.prog 22 #[.int .i64 h, .int .i64 m] w fun e w' => e = .returned (.string (B (layL 1 h m))) ∧ w = w' := by
  obtain ⟨a, ha⟩ : ∃ a, a = B (twL h) := ⟨_, rfl⟩
  obtain ⟨b, hb⟩ : ∃ b, b = B (twL m) := ⟨_, rfl⟩
  have D1 := Lib.hid (two_of h hh a ha)
  have D2 := Lib.hid (two_of m hm b hb)
  have HX : Hid (a ++ b = B (layL 1 h m)) := Lib.hid (by
    rw [ha, hb]
    show B (twL h) ++ B (twL m) = _
    rw [B_app]
    rfl)
  have s1 : a.size ≤ 2 := by rw [ha]; exact tw_le _
  have s2 : b.size ≤ 2 := by rw [hb]; exact tw_le _
  clear ha hb
  go_enter Tryd.func22, Tryd.ntmps22
  go_wp2_with (first | (go_at_call 19; first | ((with_reducible refine (D1.out _).mono ?_); rintro e w1 ⟨rfl, rfl⟩) | ((with_reducible refine (D2.out _).mono ?_); rintro e w2 ⟨rfl, rfl⟩)))
  go_ret
  exact ⟨retO_str HX.out, rfl⟩
set_option maxHeartbeats 4000000 in
theorem short_one (h m : Nat) (hh : h < 100) (hm : m < 100) (hz : m = 0) (w : World) : Calls Tryd.prog 20 #[.int .i64 h, .int .i64 m] w fun e w' => e = .returned (.string (B (layL 3 h m))) ∧ w = w' := by
  obtain ⟨a, ha⟩ : ∃ a, a = B (nuL h) := ⟨_, rfl⟩
  obtain ⟨b, hb⟩ : ∃ b, b = B (twL m) := ⟨_, rfl⟩
  have D1 := Lib.hid (itoa_of h hh a ha)
  have D2 := Lib.hid (two_of m hm b hb)
  have HX : Hid (a = B (layL 3 h m)) := Lib.hid (by
    rw [ha]
    show B (nuL h) = _
    
    rw [show layL 3 h m = nuL h by unfold layL; rw [if_neg (by decide), if_pos rfl, if_pos hz]])
  have s1 : a.size ≤ 2 := by rw [ha]; exact nu_le _
  have s2 : b.size ≤ 2 := by rw [hb]; exact tw_le _
  clear ha hb
  go_enter Tryd.func20, Tryd.ntmps20
  go_wp2_with (first | (go_at_call 21; ((with_reducible refine (D1.out _).mono ?_); rintro e w1 ⟨rfl, rfl⟩)) | (go_at_call 19; ((with_reducible refine (D2.out _).mono ?_); rintro e w2 ⟨rfl, rfl⟩)))
  go_ret
  exact ⟨retO_str HX.out, rfl⟩
set_option maxHeartbeats 4000000 in
theorem short_two (h m : Nat) (hh : h < 100) (hm : m < 100) (hz : ¬ m = 0) (w : World) : Calls Tryd.prog 20 #[.int .i64 h, .int .i64 m] w fun e w' => e = .returned (.string (B (layL 3 h m))) ∧ w = w' := by
  obtain ⟨a, ha⟩ : ∃ a, a = B (nuL h) := ⟨_, rfl⟩
  obtain ⟨b, hb⟩ : ∃ b, b = B (twL m) := ⟨_, rfl⟩
  have D1 := Lib.hid (itoa_of h hh a ha)
  have D2 := Lib.hid (two_of m hm b hb)
  have HX : Hid (a ++ ⟨#[58]⟩ ++ b = B (layL 3 h m)) := Lib.hid (by
    rw [ha, hb]
    show B (nuL h) ++ B [58] ++ B (twL m) = _
    rw [B_app, B_app]
    rw [show layL 3 h m = nuL h ++ (58 :: twL m) by unfold layL; rw [if_neg (by decide), if_pos rfl, if_neg hz]]; simp)
  have s1 : a.size ≤ 2 := by rw [ha]; exact nu_le _
  have s2 : b.size ≤ 2 := by rw [hb]; exact tw_le _
  clear ha hb
  go_enter Tryd.func20, Tryd.ntmps20
  go_wp2_with (first | (go_at_call 21; ((with_reducible refine (D1.out _).mono ?_); rintro e w1 ⟨rfl, rfl⟩)) | (go_at_call 19; ((with_reducible refine (D2.out _).mono ?_); rintro e w2 ⟨rfl, rfl⟩)))
  go_ret
  exact ⟨retO_str HX.out, rfl⟩
end Go.Proofs.YtggepbkhhnhnkaaDoor
