/- Parts of a proof, laid together. -/
import Derived.Test.YtbbbeldbhlehnaaGreatDoorMUTrB23
set_option linter.unusedSimpArgs false
set_option linter.unusedVariables false
section
set_option maxRecDepth 100000
namespace Gno
open Go Go.RowKit
theorem w64_in (n : Int) (h : -9223372036854775808 ≤ n ∧ n ≤ 9223372036854775807) : wrap64 n = n := by unfold wrap64; omega
theorem neg_m {n : Int} (h : n < 0) (h1 : -57600 ≤ n) : wrap64 (-n.tdiv 60) = ((n.natAbs / 60 : Nat) : Int) := by
 have e : n = -((n.natAbs : Nat) : Int) := by omega
 have e2 : n.tdiv 60 = -((n.natAbs / 60 : Nat) : Int) := by
  conv => lhs; rw [e]
  rw [Int.neg_tdiv, Int.tdiv_eq_ediv_of_nonneg (by omega)]; omega
 rw [e2, Int.neg_neg, w64_in _ (by omega)]
theorem neg_h {n : Int} (h : n < 0) (h1 : -57600 ≤ n) : wrap64 ((wrap64 (-n.tdiv 60)).tdiv 60) = ((n.natAbs / 60 / 60 : Nat) : Int) := by
 rw [neg_m h h1, Int.tdiv_eq_ediv_of_nonneg (by omega), w64_in _ (by omega)]; omega
theorem neg_h2 {n : Int} (h : n < 0) (h1 : -57600 ≤ n) : (wrap64 (-n.tdiv 60)).tdiv 60 = ((n.natAbs / 60 / 60 : Nat) : Int) := by
 rw [neg_m h h1, Int.tdiv_eq_ediv_of_nonneg (by omega)]; omega
theorem neg_s {n : Int} (h : n < 0) (h1 : -57600 ≤ n) : (wrap64 (-n.tdiv 60)).tmod 60 = ((n.natAbs / 60 % 60 : Nat) : Int) := by
 rw [neg_m h h1, Int.tmod_eq_emod_of_nonneg (by omega)]; omega
end Gno
namespace Go.Proofs.YtbbbeldbhlehnaaGreatDoor
open Go.RowKit Gno
theorem two_at (H : Nat) (h : H < 100) (s : ByteArray) (hs : s = B (twL H)) (x : Int) (hx : x = H) (w : World) : Calls Tryz.prog 155 #[.int .i64 x] w fun e w' => e = .returned (.string s) ∧ Below w.heap.size w w' := by
 rw [hx, hs]; exact twoR_any H h w
theorem digits_at (H : Nat) (h : H < 100) (s : ByteArray) (hs : s = B (nuL H)) (x : Int) (hx : x = H) (w : World) : Calls Tryz.prog 156 #[.int .i64 x] w fun e w' => e = .returned (.string s) ∧ Below w.heap.size w w' := by
 rw [hx, hs]; exact digits_any H h w
set_option maxHeartbeats 4000000 in
theorem textR_1n (n : Int) (hn : offOk n = true) (hs : n < 0) (w : World) : Calls Tryz.prog 77 #[.int .i64 1, .int .i64 n] w fun e w' => e = .returned (.tuple #[.string (showT 1 n), .int .i64 (showE 1 n)]) ∧ Below w.heap.size w w' := by
 obtain ⟨h1, h2, h3⟩ := offOk_iff.1 hn
 rw [(showE_ok (by decide) hn).1]
 have ht := tmod60.2 h3
 have C := Lib.hid (fun w => withinO_any 1 1 4 w)
 have C2 := Lib.hid (fun w => withinO_any n (-57600) 57600 w)
 rw [decide_eq_true (⟨h1, h2⟩ : -57600 ≤ n ∧ n ≤ 57600)] at C2
 rw [show decide ((1 : Int) ≤ 1 ∧ (1 : Int) ≤ 4) = true by decide] at C
 obtain ⟨H, hH⟩ : ∃ H : Nat, H = n.natAbs / 60 / 60 := ⟨_, rfl⟩
 obtain ⟨M, hM⟩ : ∃ M : Nat, M = n.natAbs / 60 % 60 := ⟨_, rfl⟩
 obtain ⟨a, ha⟩ : ∃ a, a = B (twL H) := ⟨_, rfl⟩
 obtain ⟨b, hb⟩ : ∃ b, b = B (twL M) := ⟨_, rfl⟩
 have D1 := Lib.hid (two_at H (by omega) a ha)
 have D2 := Lib.hid (two_at M (by omega) b hb)
 have HX : Hid ((⟨#[45]⟩ : ByteArray) ++ a ++ b = showT 1 n) := Lib.hid (by
  rw [ha, hb]
  show B [45] ++ B (twL H) ++ B (twL M) = _
  rw [B_app, B_app]
  exact showT_of (by decide) hn (by rw [showL_some (by omega), ← hH, ← hM, sg_neg (by omega)]; simp [layL, aheadL]))
 have s1 : a.size ≤ 2 := by rw [ha]; exact tw_le _
 have s2 : b.size ≤ 2 := by rw [hb]; exact tw_le _
 clear ha hb
 go_enter Tryz.func77, Tryz.ntmps77
 go_wp2_with (first | (go_at_call 45; (first | with_reducible refine (C.out _).mono ?_ | with_reducible refine (C2.out _).mono ?_); rintro e w1 ⟨rfl, rfl⟩) | (go_at_call 155; first | ((with_reducible refine (D1.out _ (by first | exact (neg_h hs h1).trans (by omega) | exact (neg_h2 hs h1).trans (by omega)) _).mono ?_); rintro e w1 ⟨rfl, hb1⟩) | ((with_reducible refine (D2.out _ (by exact (neg_s hs h1).trans (by omega)) _).mono ?_); rintro e w2 ⟨rfl, hb2⟩)))
 go_ret2
 exact ⟨retO_pair HX.out, hb1.trans (hb2.mono hb1.size)⟩
set_option maxHeartbeats 4000000 in
theorem textR_1q (n : Int) (hn : offOk n = true) (hs : 0 ≤ n) (w : World) : Calls Tryz.prog 77 #[.int .i64 1, .int .i64 n] w fun e w' => e = .returned (.tuple #[.string (showT 1 n), .int .i64 (showE 1 n)]) ∧ Below w.heap.size w w' := by
 obtain ⟨h1, h2, h3⟩ := offOk_iff.1 hn
 rw [(showE_ok (by decide) hn).1]
 have ht := tmod60.2 h3
 have C := Lib.hid (fun w => withinO_any 1 1 4 w)
 have C2 := Lib.hid (fun w => withinO_any n (-57600) 57600 w)
 rw [decide_eq_true (⟨h1, h2⟩ : -57600 ≤ n ∧ n ≤ 57600)] at C2
 rw [show decide ((1 : Int) ≤ 1 ∧ (1 : Int) ≤ 4) = true by decide] at C
 obtain ⟨H, hH⟩ : ∃ H : Nat, H = n.natAbs / 60 / 60 := ⟨_, rfl⟩
 obtain ⟨M, hM⟩ : ∃ M : Nat, M = n.natAbs / 60 % 60 := ⟨_, rfl⟩
 obtain ⟨a, ha⟩ : ∃ a, a = B (twL H) := ⟨_, rfl⟩
 obtain ⟨b, hb⟩ : ∃ b, b = B (twL M) := ⟨_, rfl⟩
 have D1 := Lib.hid (two_at H (by omega) a ha)
 have D2 := Lib.hid (two_at M (by omega) b hb)
 have HX : Hid ((⟨#[43]⟩ : ByteArray) ++ a ++ b = showT 1 n) := Lib.hid (by
  rw [ha, hb]
  show B [43] ++ B (twL H) ++ B (twL M) = _
  rw [B_app, B_app]
  exact showT_of (by decide) hn (by rw [showL_some (by omega), ← hH, ← hM, sg_pos (by omega)]; simp [layL, aheadL]))
 have s1 : a.size ≤ 2 := by rw [ha]; exact tw_le _
 have s2 : b.size ≤ 2 := by rw [hb]; exact tw_le _
 clear ha hb
 go_enter Tryz.func77, Tryz.ntmps77
 go_wp2_with (first | (go_at_call 45; (first | with_reducible refine (C.out _).mono ?_ | with_reducible refine (C2.out _).mono ?_); rintro e w1 ⟨rfl, rfl⟩) | (go_at_call 155; first | ((with_reducible refine (D1.out _ (by omega) _).mono ?_); rintro e w1 ⟨rfl, hb1⟩) | ((with_reducible refine (D2.out _ (by omega) _).mono ?_); rintro e w2 ⟨rfl, hb2⟩)))
 go_ret2
 exact ⟨retO_pair HX.out, hb1.trans (hb2.mono hb1.size)⟩
set_option maxHeartbeats 4000000 in
theorem textR_2z (n : Int) (hn : offOk n = true) (hs : n = 0) (w : World) : Calls Tryz.prog 77 #[.int .i64 2, .int .i64 n] w fun e w' => e = .returned (.tuple #[.string (showT 2 n), .int .i64 (showE 2 n)]) ∧ Below w.heap.size w w' := by
 obtain ⟨h1, h2, h3⟩ := offOk_iff.1 hn
 rw [(showE_ok (by decide) hn).1]
 have ht := tmod60.2 h3
 have C := Lib.hid (fun w => withinO_any 2 1 4 w)
 have C2 := Lib.hid (fun w => withinO_any n (-57600) 57600 w)
 rw [decide_eq_true (⟨h1, h2⟩ : -57600 ≤ n ∧ n ≤ 57600)] at C2
 rw [show decide ((1 : Int) ≤ 2 ∧ (2 : Int) ≤ 4) = true by decide] at C
 have HX : Hid ((⟨#[90]⟩ : ByteArray) = showT 2 n) := Lib.hid (showT_of (l := [90]) (by decide) hn (by rw [showL_zero hs (by decide)]; rfl))
 subst hs
 go_enter Tryz.func77, Tryz.ntmps77
 go_wp2_with (go_at_call 45; (first | with_reducible refine (C.out _).mono ?_ | with_reducible refine (C2.out _).mono ?_); rintro e w1 ⟨rfl, rfl⟩)
 go_ret2
 exact ⟨retO_pair HX.out, Below.refl _ _⟩
set_option maxHeartbeats 4000000 in
theorem textR_2n (n : Int) (hn : offOk n = true) (hs : n < 0) (w : World) : Calls Tryz.prog 77 #[.int .i64 2, .int .i64 n] w fun e w' => e = .returned (.tuple #[.string (showT 2 n), .int .i64 (showE 2 n)]) ∧ Below w.heap.size w w' := by
 obtain ⟨h1, h2, h3⟩ := offOk_iff.1 hn
 rw [(showE_ok (by decide) hn).1]
 have ht := tmod60.2 h3
 have C := Lib.hid (fun w => withinO_any 2 1 4 w)
 have C2 := Lib.hid (fun w => withinO_any n (-57600) 57600 w)
 rw [decide_eq_true (⟨h1, h2⟩ : -57600 ≤ n ∧ n ≤ 57600)] at C2
 rw [show decide ((1 : Int) ≤ 2 ∧ (2 : Int) ≤ 4) = true by decide] at C
 obtain ⟨H, hH⟩ : ∃ H : Nat, H = n.natAbs / 60 / 60 := ⟨_, rfl⟩
 obtain ⟨M, hM⟩ : ∃ M : Nat, M = n.natAbs / 60 % 60 := ⟨_, rfl⟩
 obtain ⟨a, ha⟩ : ∃ a, a = B (twL H) := ⟨_, rfl⟩
 obtain ⟨b, hb⟩ : ∃ b, b = B (twL M) := ⟨_, rfl⟩
 have D1 := Lib.hid (two_at H (by omega) a ha)
 have D2 := Lib.hid (two_at M (by omega) b hb)
 have HX : Hid ((⟨#[45]⟩ : ByteArray) ++ a ++ ⟨#[58]⟩ ++ b = showT 2 n) := Lib.hid (by
  rw [ha, hb]
  show B [45] ++ B (twL H) ++ B [58] ++ B (twL M) = _
  rw [B_app, B_app, B_app]
  exact showT_of (by decide) hn (by rw [showL_some (by omega), ← hH, ← hM, sg_neg (by omega)]; simp [layL, aheadL]))
 have s1 : a.size ≤ 2 := by rw [ha]; exact tw_le _
 have s2 : b.size ≤ 2 := by rw [hb]; exact tw_le _
 clear ha hb
 go_enter Tryz.func77, Tryz.ntmps77
 go_wp2_with (first | (go_at_call 45; (first | with_reducible refine (C.out _).mono ?_ | with_reducible refine (C2.out _).mono ?_); rintro e w1 ⟨rfl, rfl⟩) | (go_at_call 155; first | ((with_reducible refine (D1.out _ (by first | exact (neg_h hs h1).trans (by omega) | exact (neg_h2 hs h1).trans (by omega)) _).mono ?_); rintro e w1 ⟨rfl, hb1⟩) | ((with_reducible refine (D2.out _ (by exact (neg_s hs h1).trans (by omega)) _).mono ?_); rintro e w2 ⟨rfl, hb2⟩)))
 go_ret2
 exact ⟨retO_pair HX.out, hb1.trans (hb2.mono hb1.size)⟩
set_option maxHeartbeats 4000000 in
theorem textR_2p (n : Int) (hn : offOk n = true) (hs : 0 < n) (w : World) : Calls Tryz.prog 77 #[.int .i64 2, .int .i64 n] w fun e w' => e = .returned (.tuple #[.string (showT 2 n), .int .i64 (showE 2 n)]) ∧ Below w.heap.size w w' := by
 obtain ⟨h1, h2, h3⟩ := offOk_iff.1 hn
 rw [(showE_ok (by decide) hn).1]
 have ht := tmod60.2 h3
 have C := Lib.hid (fun w => withinO_any 2 1 4 w)
 have C2 := Lib.hid (fun w => withinO_any n (-57600) 57600 w)
 rw [decide_eq_true (⟨h1, h2⟩ : -57600 ≤ n ∧ n ≤ 57600)] at C2
 rw [show decide ((1 : Int) ≤ 2 ∧ (2 : Int) ≤ 4) = true by decide] at C
 obtain ⟨H, hH⟩ : ∃ H : Nat, H = n.natAbs / 60 / 60 := ⟨_, rfl⟩
 obtain ⟨M, hM⟩ : ∃ M : Nat, M = n.natAbs / 60 % 60 := ⟨_, rfl⟩
 obtain ⟨a, ha⟩ : ∃ a, a = B (twL H) := ⟨_, rfl⟩
 obtain ⟨b, hb⟩ : ∃ b, b = B (twL M) := ⟨_, rfl⟩
 have D1 := Lib.hid (two_at H (by omega) a ha)
 have D2 := Lib.hid (two_at M (by omega) b hb)
 have HX : Hid ((⟨#[43]⟩ : ByteArray) ++ a ++ ⟨#[58]⟩ ++ b = showT 2 n) := Lib.hid (by
  rw [ha, hb]
  show B [43] ++ B (twL H) ++ B [58] ++ B (twL M) = _
  rw [B_app, B_app, B_app]
  exact showT_of (by decide) hn (by rw [showL_some (by omega), ← hH, ← hM, sg_pos (by omega)]; simp [layL, aheadL]))
 have s1 : a.size ≤ 2 := by rw [ha]; exact tw_le _
 have s2 : b.size ≤ 2 := by rw [hb]; exact tw_le _
 clear ha hb
 go_enter Tryz.func77, Tryz.ntmps77
 go_wp2_with (first | (go_at_call 45; (first | with_reducible refine (C.out _).mono ?_ | with_reducible refine (C2.out _).mono ?_); rintro e w1 ⟨rfl, rfl⟩) | (go_at_call 155; first | ((with_reducible refine (D1.out _ (by omega) _).mono ?_); rintro e w1 ⟨rfl, hb1⟩) | ((with_reducible refine (D2.out _ (by omega) _).mono ?_); rintro e w2 ⟨rfl, hb2⟩)))
 go_ret2
 exact ⟨retO_pair HX.out, hb1.trans (hb2.mono hb1.size)⟩
set_option maxHeartbeats 4000000 in
theorem textR_3z (n : Int) (hn : offOk n = true) (hs : n = 0) (w : World) : Calls Tryz.prog 77 #[.int .i64 3, .int .i64 n] w fun e w' => e = .returned (.tuple #[.string (showT 3 n), .int .i64 (showE 3 n)]) ∧ Below w.heap.size w w' := by
 obtain ⟨h1, h2, h3⟩ := offOk_iff.1 hn
 rw [(showE_ok (by decide) hn).1]
 have ht := tmod60.2 h3
 have C := Lib.hid (fun w => withinO_any 3 1 4 w)
 have C2 := Lib.hid (fun w => withinO_any n (-57600) 57600 w)
 rw [decide_eq_true (⟨h1, h2⟩ : -57600 ≤ n ∧ n ≤ 57600)] at C2
 rw [show decide ((1 : Int) ≤ 3 ∧ (3 : Int) ≤ 4) = true by decide] at C
 have HX : Hid ((⟨#[71, 77, 84]⟩ : ByteArray) = showT 3 n) := Lib.hid (showT_of (l := [71, 77, 84]) (by decide) hn (by rw [showL_zero hs (by decide)]; rfl))
 subst hs
 go_enter Tryz.func77, Tryz.ntmps77
 go_wp2_with (go_at_call 45; (first | with_reducible refine (C.out _).mono ?_ | with_reducible refine (C2.out _).mono ?_); rintro e w1 ⟨rfl, rfl⟩)
 go_ret2
 exact ⟨retO_pair HX.out, Below.refl _ _⟩
set_option maxHeartbeats 4000000 in
theorem textR_3n0 (n : Int) (hn : offOk n = true) (hs : n < 0) (hm : n.natAbs / 60 % 60 = 0) (w : World) : Calls Tryz.prog 77 #[.int .i64 3, .int .i64 n] w fun e w' => e = .returned (.tuple #[.string (showT 3 n), .int .i64 (showE 3 n)]) ∧ Below w.heap.size w w' := by
 obtain ⟨h1, h2, h3⟩ := offOk_iff.1 hn
 rw [(showE_ok (by decide) hn).1]
 have ht := tmod60.2 h3
 have C := Lib.hid (fun w => withinO_any 3 1 4 w)
 have C2 := Lib.hid (fun w => withinO_any n (-57600) 57600 w)
 rw [decide_eq_true (⟨h1, h2⟩ : -57600 ≤ n ∧ n ≤ 57600)] at C2
 rw [show decide ((1 : Int) ≤ 3 ∧ (3 : Int) ≤ 4) = true by decide] at C
 obtain ⟨H, hH⟩ : ∃ H : Nat, H = n.natAbs / 60 / 60 := ⟨_, rfl⟩
 obtain ⟨M, hM⟩ : ∃ M : Nat, M = n.natAbs / 60 % 60 := ⟨_, rfl⟩
 obtain ⟨a, ha⟩ : ∃ a, a = B (nuL H) := ⟨_, rfl⟩
 obtain ⟨b, hb⟩ : ∃ b, b = B (twL M) := ⟨_, rfl⟩
 have D1 := Lib.hid (digits_at H (by omega) a ha)
 have D2 := Lib.hid (two_at M (by omega) b hb)
 have HX : Hid ((⟨#[71, 77, 84]⟩ : ByteArray) ++ ⟨#[45]⟩ ++ a = showT 3 n) := Lib.hid (by
  rw [ha]
  show B [71, 77, 84] ++ B [45] ++ B (nuL H) = _
  rw [B_app, B_app]
  exact showT_of (by decide) hn (by rw [showL_some (by omega), ← hH, ← hM, sg_neg (by omega)]; rw [show layL 3 H M = nuL H by unfold layL; rw [if_neg (by decide), if_pos rfl, if_pos (by omega)]]; simp [aheadL]))
 have s1 : a.size ≤ 2 := by rw [ha]; exact nu_le _
 have s2 : b.size ≤ 2 := by rw [hb]; exact tw_le _
 clear ha hb
 have hm2 : ((wrap64 (-n.tdiv 60)).tmod 60 = 0) := by rw [neg_s hs h1]; omega
 go_enter Tryz.func77, Tryz.ntmps77
 go_wp2_with (first | (go_at_call 45; (first | with_reducible refine (C.out _).mono ?_ | with_reducible refine (C2.out _).mono ?_); rintro e w1 ⟨rfl, rfl⟩) | (go_at_call 156; ((with_reducible refine (D1.out _ (by first | exact (neg_h hs h1).trans (by omega) | exact (neg_h2 hs h1).trans (by omega)) _).mono ?_); rintro e w1 ⟨rfl, hb1⟩)))
 go_ret2
 exact ⟨retO_pair HX.out, hb1⟩
set_option maxHeartbeats 4000000 in
theorem textR_3n1 (n : Int) (hn : offOk n = true) (hs : n < 0) (hm : ¬ n.natAbs / 60 % 60 = 0) (w : World) : Calls Tryz.prog 77 #[.int .i64 3, .int .i64 n] w fun e w' => e = .returned (.tuple #[.string (showT 3 n), .int .i64 (showE 3 n)]) ∧ Below w.heap.size w w' := by
 obtain ⟨h1, h2, h3⟩ := offOk_iff.1 hn
 rw [(showE_ok (by decide) hn).1]
 have ht := tmod60.2 h3
 have C := Lib.hid (fun w => withinO_any 3 1 4 w)
 have C2 := Lib.hid (fun w => withinO_any n (-57600) 57600 w)
 rw [decide_eq_true (⟨h1, h2⟩ : -57600 ≤ n ∧ n ≤ 57600)] at C2
 rw [show decide ((1 : Int) ≤ 3 ∧ (3 : Int) ≤ 4) = true by decide] at C
 obtain ⟨H, hH⟩ : ∃ H : Nat, H = n.natAbs / 60 / 60 := ⟨_, rfl⟩
 obtain ⟨M, hM⟩ : ∃ M : Nat, M = n.natAbs / 60 % 60 := ⟨_, rfl⟩
 obtain ⟨a, ha⟩ : ∃ a, a = B (nuL H) := ⟨_, rfl⟩
 obtain ⟨b, hb⟩ : ∃ b, b = B (twL M) := ⟨_, rfl⟩
 have D1 := Lib.hid (digits_at H (by omega) a ha)
 have D2 := Lib.hid (two_at M (by omega) b hb)
 have HX : Hid ((⟨#[71, 77, 84]⟩ : ByteArray) ++ ⟨#[45]⟩ ++ a ++ ⟨#[58]⟩ ++ b = showT 3 n) := Lib.hid (by
  rw [ha, hb]
  show B [71, 77, 84] ++ B [45] ++ B (nuL H) ++ B [58] ++ B (twL M) = _
  rw [B_app, B_app, B_app, B_app]
  exact showT_of (by decide) hn (by rw [showL_some (by omega), ← hH, ← hM, sg_neg (by omega)]; rw [show layL 3 H M = nuL H ++ (58 :: twL M) by unfold layL; rw [if_neg (by decide), if_pos rfl, if_neg (by omega)]]; simp [aheadL]))
 have s1 : a.size ≤ 2 := by rw [ha]; exact nu_le _
 have s2 : b.size ≤ 2 := by rw [hb]; exact tw_le _
 clear ha hb
 have hm2 : ¬ ((wrap64 (-n.tdiv 60)).tmod 60 = 0) := by rw [neg_s hs h1]; omega
 go_enter Tryz.func77, Tryz.ntmps77
 go_wp2_with (first | (go_at_call 45; (first | with_reducible refine (C.out _).mono ?_ | with_reducible refine (C2.out _).mono ?_); rintro e w1 ⟨rfl, rfl⟩) | (go_at_call 156; ((with_reducible refine (D1.out _ (by first | exact (neg_h hs h1).trans (by omega) | exact (neg_h2 hs h1).trans (by omega)) _).mono ?_); rintro e w1 ⟨rfl, hb1⟩)) | (go_at_call 155; ((with_reducible refine (D2.out _ (by exact (neg_s hs h1).trans (by omega)) _).mono ?_); rintro e w2 ⟨rfl, hb2⟩)))
 go_ret2
 exact ⟨retO_pair HX.out, hb1.trans (hb2.mono hb1.size)⟩
set_option maxHeartbeats 4000000 in
theorem textR_3p0 (n : Int) (hn : offOk n = true) (hs : 0 < n) (hm : n.natAbs / 60 % 60 = 0) (w : World) : Calls Tryz.prog 77 #[.int .i64 3, .int .i64 n] w fun e w' => e = .returned (.tuple #[.string (showT 3 n), .int .i64 (showE 3 n)]) ∧ Below w.heap.size w w' := by
 obtain ⟨h1, h2, h3⟩ := offOk_iff.1 hn
 rw [(showE_ok (by decide) hn).1]
 have ht := tmod60.2 h3
 have C := Lib.hid (fun w => withinO_any 3 1 4 w)
 have C2 := Lib.hid (fun w => withinO_any n (-57600) 57600 w)
 rw [decide_eq_true (⟨h1, h2⟩ : -57600 ≤ n ∧ n ≤ 57600)] at C2
 rw [show decide ((1 : Int) ≤ 3 ∧ (3 : Int) ≤ 4) = true by decide] at C
 obtain ⟨H, hH⟩ : ∃ H : Nat, H = n.natAbs / 60 / 60 := ⟨_, rfl⟩
 obtain ⟨M, hM⟩ : ∃ M : Nat, M = n.natAbs / 60 % 60 := ⟨_, rfl⟩
 obtain ⟨a, ha⟩ : ∃ a, a = B (nuL H) := ⟨_, rfl⟩
 obtain ⟨b, hb⟩ : ∃ b, b = B (twL M) := ⟨_, rfl⟩
 have D1 := Lib.hid (digits_at H (by omega) a ha)
 have D2 := Lib.hid (two_at M (by omega) b hb)
 have HX : Hid ((⟨#[71, 77, 84]⟩ : ByteArray) ++ ⟨#[43]⟩ ++ a = showT 3 n) := Lib.hid (by
  rw [ha]
  show B [71, 77, 84] ++ B [43] ++ B (nuL H) = _
  rw [B_app, B_app]
  exact showT_of (by decide) hn (by rw [showL_some (by omega), ← hH, ← hM, sg_pos (by omega)]; rw [show layL 3 H M = nuL H by unfold layL; rw [if_neg (by decide), if_pos rfl, if_pos (by omega)]]; simp [aheadL]))
 have s1 : a.size ≤ 2 := by rw [ha]; exact nu_le _
 have s2 : b.size ≤ 2 := by rw [hb]; exact tw_le _
 clear ha hb
 have hm2 : (n / 60 % 60 = 0) := by omega
 go_enter Tryz.func77, Tryz.ntmps77
 go_wp2_with (first | (go_at_call 45; (first | with_reducible refine (C.out _).mono ?_ | with_reducible refine (C2.out _).mono ?_); rintro e w1 ⟨rfl, rfl⟩) | (go_at_call 156; ((with_reducible refine (D1.out _ (by omega) _).mono ?_); rintro e w1 ⟨rfl, hb1⟩)))
 go_ret2
 exact ⟨retO_pair HX.out, hb1⟩
set_option maxHeartbeats 4000000 in
theorem textR_3p1 (n : Int) (hn : offOk n = true) (hs : 0 < n) (hm : ¬ n.natAbs / 60 % 60 = 0) (w : World) : Calls Tryz.prog 77 #[.int .i64 3, .int .i64 n] w fun e w' => e = .returned (.tuple #[.string (showT 3 n), .int .i64 (showE 3 n)]) ∧ Below w.heap.size w w' := by
 obtain ⟨h1, h2, h3⟩ := offOk_iff.1 hn
 rw [(showE_ok (by decide) hn).1]
 have ht := tmod60.2 h3
 have C := Lib.hid (fun w => withinO_any 3 1 4 w)
 have C2 := Lib.hid (fun w => withinO_any n (-57600) 57600 w)
 rw [decide_eq_true (⟨h1, h2⟩ : -57600 ≤ n ∧ n ≤ 57600)] at C2
 rw [show decide ((1 : Int) ≤ 3 ∧ (3 : Int) ≤ 4) = true by decide] at C
 obtain ⟨H, hH⟩ : ∃ H : Nat, H = n.natAbs / 60 / 60 := ⟨_, rfl⟩
 obtain ⟨M, hM⟩ : ∃ M : Nat, M = n.natAbs / 60 % 60 := ⟨_, rfl⟩
 obtain ⟨a, ha⟩ : ∃ a, a = B (nuL H) := ⟨_, rfl⟩
 obtain ⟨b, hb⟩ : ∃ b, b = B (twL M) := ⟨_, rfl⟩
 have D1 := Lib.hid (digits_at H (by omega) a ha)
 have D2 := Lib.hid (two_at M (by omega) b hb)
 have HX : Hid ((⟨#[71, 77, 84]⟩ : ByteArray) ++ ⟨#[43]⟩ ++ a ++ ⟨#[58]⟩ ++ b = showT 3 n) := Lib.hid (by
  rw [ha, hb]
  show B [71, 77, 84] ++ B [43] ++ B (nuL H) ++ B [58] ++ B (twL M) = _
  rw [B_app, B_app, B_app, B_app]
  exact showT_of (by decide) hn (by rw [showL_some (by omega), ← hH, ← hM, sg_pos (by omega)]; rw [show layL 3 H M = nuL H ++ (58 :: twL M) by unfold layL; rw [if_neg (by decide), if_pos rfl, if_neg (by omega)]]; simp [aheadL]))
 have s1 : a.size ≤ 2 := by rw [ha]; exact nu_le _
 have s2 : b.size ≤ 2 := by rw [hb]; exact tw_le _
 clear ha hb
 have hm2 : ¬ (n / 60 % 60 = 0) := by omega
 go_enter Tryz.func77, Tryz.ntmps77
 go_wp2_with (first | (go_at_call 45; (first | with_reducible refine (C.out _).mono ?_ | with_reducible refine (C2.out _).mono ?_); rintro e w1 ⟨rfl, rfl⟩) | (go_at_call 156; ((with_reducible refine (D1.out _ (by omega) _).mono ?_); rintro e w1 ⟨rfl, hb1⟩)) | (go_at_call 155; ((with_reducible refine (D2.out _ (by omega) _).mono ?_); rintro e w2 ⟨rfl, hb2⟩)))
 go_ret2
 exact ⟨retO_pair HX.out, hb1.trans (hb2.mono hb1.size)⟩
set_option maxHeartbeats 4000000 in
theorem textR_4z (n : Int) (hn : offOk n = true) (hs : n = 0) (w : World) : Calls Tryz.prog 77 #[.int .i64 4, .int .i64 n] w fun e w' => e = .returned (.tuple #[.string (showT 4 n), .int .i64 (showE 4 n)]) ∧ Below w.heap.size w w' := by
 obtain ⟨h1, h2, h3⟩ := offOk_iff.1 hn
 rw [(showE_ok (by decide) hn).1]
 have ht := tmod60.2 h3
 have C := Lib.hid (fun w => withinO_any 4 1 4 w)
 have C2 := Lib.hid (fun w => withinO_any n (-57600) 57600 w)
 rw [decide_eq_true (⟨h1, h2⟩ : -57600 ≤ n ∧ n ≤ 57600)] at C2
 rw [show decide ((1 : Int) ≤ 4 ∧ (4 : Int) ≤ 4) = true by decide] at C
 have HX : Hid ((⟨#[71, 77, 84]⟩ : ByteArray) = showT 4 n) := Lib.hid (showT_of (l := [71, 77, 84]) (by decide) hn (by rw [showL_zero hs (by decide)]; rfl))
 subst hs
 go_enter Tryz.func77, Tryz.ntmps77
 go_wp2_with (go_at_call 45; (first | with_reducible refine (C.out _).mono ?_ | with_reducible refine (C2.out _).mono ?_); rintro e w1 ⟨rfl, rfl⟩)
 go_ret2
 exact ⟨retO_pair HX.out, Below.refl _ _⟩
set_option maxHeartbeats 4000000 in
theorem textR_4n (n : Int) (hn : offOk n = true) (hs : n < 0) (w : World) : Calls Tryz.prog 77 #[.int .i64 4, .int .i64 n] w fun e w' => e = .returned (.tuple #[.string (showT 4 n), .int .i64 (showE 4 n)]) ∧ Below w.heap.size w w' := by
 obtain ⟨h1, h2, h3⟩ := offOk_iff.1 hn
 rw [(showE_ok (by decide) hn).1]
 have ht := tmod60.2 h3
 have C := Lib.hid (fun w => withinO_any 4 1 4 w)
 have C2 := Lib.hid (fun w => withinO_any n (-57600) 57600 w)
 rw [decide_eq_true (⟨h1, h2⟩ : -57600 ≤ n ∧ n ≤ 57600)] at C2
 rw [show decide ((1 : Int) ≤ 4 ∧ (4 : Int) ≤ 4) = true by decide] at C
 obtain ⟨H, hH⟩ : ∃ H : Nat, H = n.natAbs / 60 / 60 := ⟨_, rfl⟩
 obtain ⟨M, hM⟩ : ∃ M : Nat, M = n.natAbs / 60 % 60 := ⟨_, rfl⟩
 obtain ⟨a, ha⟩ : ∃ a, a = B (twL H) := ⟨_, rfl⟩
 obtain ⟨b, hb⟩ : ∃ b, b = B (twL M) := ⟨_, rfl⟩
 have D1 := Lib.hid (two_at H (by omega) a ha)
 have D2 := Lib.hid (two_at M (by omega) b hb)
 have HX : Hid ((⟨#[71, 77, 84]⟩ : ByteArray) ++ ⟨#[45]⟩ ++ a ++ ⟨#[58]⟩ ++ b = showT 4 n) := Lib.hid (by
  rw [ha, hb]
  show B [71, 77, 84] ++ B [45] ++ B (twL H) ++ B [58] ++ B (twL M) = _
  rw [B_app, B_app, B_app, B_app]
  exact showT_of (by decide) hn (by rw [showL_some (by omega), ← hH, ← hM, sg_neg (by omega)]; simp [layL, aheadL]))
 have s1 : a.size ≤ 2 := by rw [ha]; exact tw_le _
 have s2 : b.size ≤ 2 := by rw [hb]; exact tw_le _
 clear ha hb
 go_enter Tryz.func77, Tryz.ntmps77
 go_wp2_with (first | (go_at_call 45; (first | with_reducible refine (C.out _).mono ?_ | with_reducible refine (C2.out _).mono ?_); rintro e w1 ⟨rfl, rfl⟩) | (go_at_call 155; first | ((with_reducible refine (D1.out _ (by first | exact (neg_h hs h1).trans (by omega) | exact (neg_h2 hs h1).trans (by omega)) _).mono ?_); rintro e w1 ⟨rfl, hb1⟩) | ((with_reducible refine (D2.out _ (by exact (neg_s hs h1).trans (by omega)) _).mono ?_); rintro e w2 ⟨rfl, hb2⟩)))
 go_ret2
 exact ⟨retO_pair HX.out, hb1.trans (hb2.mono hb1.size)⟩
set_option maxHeartbeats 4000000 in
theorem textR_4p (n : Int) (hn : offOk n = true) (hs : 0 < n) (w : World) : Calls Tryz.prog 77 #[.int .i64 4, .int .i64 n] w fun e w' => e = .returned (.tuple #[.string (showT 4 n), .int .i64 (showE 4 n)]) ∧ Below w.heap.size w w' := by
 obtain ⟨h1, h2, h3⟩ := offOk_iff.1 hn
 rw [(showE_ok (by decide) hn).1]
 have ht := tmod60.2 h3
 have C := Lib.hid (fun w => withinO_any 4 1 4 w)
 have C2 := Lib.hid (fun w => withinO_any n (-57600) 57600 w)
 rw [decide_eq_true (⟨h1, h2⟩ : -57600 ≤ n ∧ n ≤ 57600)] at C2
 rw [show decide ((1 : Int) ≤ 4 ∧ (4 : Int) ≤ 4) = true by decide] at C
 obtain ⟨H, hH⟩ : ∃ H : Nat, H = n.natAbs / 60 / 60 := ⟨_, rfl⟩
 obtain ⟨M, hM⟩ : ∃ M : Nat, M = n.natAbs / 60 % 60 := ⟨_, rfl⟩
 obtain ⟨a, ha⟩ : ∃ a, a = B (twL H) := ⟨_, rfl⟩
 obtain ⟨b, hb⟩ : ∃ b, b = B (twL M) := ⟨_, rfl⟩
 have D1 := Lib.hid (two_at H (by omega) a ha)
 have D2 := Lib.hid (two_at M (by omega) b hb)
 have HX : Hid ((⟨#[71, 77, 84]⟩ : ByteArray) ++ ⟨#[43]⟩ ++ a ++ ⟨#[58]⟩ ++ b = showT 4 n) := Lib.hid (by
  rw [ha, hb]
  show B [71, 77, 84] ++ B [43] ++ B (twL H) ++ B [58] ++ B (twL M) = _
  rw [B_app, B_app, B_app, B_app]
  exact showT_of (by decide) hn (by rw [showL_some (by omega), ← hH, ← hM, sg_pos (by omega)]; simp [layL, aheadL]))
 have s1 : a.size ≤ 2 := by rw [ha]; exact tw_le _
 have s2 : b.size ≤ 2 := by rw [hb]; exact tw_le _
 clear ha hb
 go_enter Tryz.func77, Tryz.ntmps77
 go_wp2_with (first | (go_at_call 45; (first | with_reducible refine (C.out _).mono ?_ | with_reducible refine (C2.out _).mono ?_); rintro e w1 ⟨rfl, rfl⟩) | (go_at_call 155; first | ((with_reducible refine (D1.out _ (by omega) _).mono ?_); rintro e w1 ⟨rfl, hb1⟩) | ((with_reducible refine (D2.out _ (by omega) _).mono ?_); rintro e w2 ⟨rfl, hb2⟩)))
 go_ret2
 exact ⟨retO_pair HX.out, hb1.trans (hb2.mono hb1.size)⟩
theorem textR_any (k n : Int) (w : World) : Calls Tryz.prog 77 #[.int .i64 k, .int .i64 n] w fun e w' => e = .returned (.tuple #[.string (showT k n), .int .i64 (showE k n)]) ∧ Below w.heap.size w w' := by
 cases hk : kindB k
 ·exact textR_kind k n hk w
 ·cases hn : offOk n
  ·exact textR_range k n hk hn w
  ·have h := kindB_iff.1 hk
   have hx : k = 1 ∨ k = 2 ∨ k = 3 ∨ k = 4 := by omega
   rcases hx with rfl | rfl | rfl | rfl
   ·by_cases hs : n < 0
    ·exact textR_1n n hn hs w
    ·exact textR_1q n hn (by omega) w
   ·by_cases hz : n = 0
    ·exact textR_2z n hn hz w
    ·by_cases hs : n < 0
     ·exact textR_2n n hn hs w
     ·exact textR_2p n hn (by omega) w
   ·by_cases hz : n = 0
    ·exact textR_3z n hn hz w
    ·by_cases hm : n.natAbs / 60 % 60 = 0
     ·by_cases hs : n < 0
      ·exact textR_3n0 n hn hs hm w
      ·exact textR_3p0 n hn (by omega) hm w
     ·by_cases hs : n < 0
      ·exact textR_3n1 n hn hs hm w
      ·exact textR_3p1 n hn (by omega) hm w
   ·by_cases hz : n = 0
    ·exact textR_4z n hn hz w
    ·by_cases hs : n < 0
     ·exact textR_4n n hn hs w
     ·exact textR_4p n hn (by omega) w
end Go.Proofs.YtbbbeldbhlehnaaGreatDoor
end
