/- Offsets as text: Show (by gen_offshow.py). -/
import Derived.Test.YtggepbkhhnhnkaaDoorOfL
import Derived.BigQuiet
import Derived.Deep.CutRange
set_option linter.unusedVariables false
set_option linter.unusedSimpArgs false
namespace Gno
open Go Go.RowKit
theorem lay_size (k : Int) (h m : Nat) : (B (layL k h m)).size ≤ 6 := by
  rw [B_size]; unfold layL nuL twL
  split
  · simp
  · split
    · split <;> split <;> simp
    · simp
end Gno
namespace Go.Proofs.YtggepbkhhnhnkaaDoor
open Go.RowKit Gno Go.Maps
theorem short_any (h m : Nat) (hh : h < 100) (hm : m < 100) (w : World) : Calls Tryd.prog 20 #[.int .i64 h, .int .i64 m] w fun e w' => e = .returned (.string (B (layL 3 h m))) ∧ w = w' := by
  by_cases hz : m = 0
  · exact short_one h m hh hm hz w
  · exact short_two h m hh hm hz w
theorem lay_1 (H M : Nat) (hh : H < 100) (hm : M < 100) (s : ByteArray) (hs : s = B (layL 1 H M)) (x y : Int) (hx : x = H) (hy : y = M) (w : World) : Calls Tryd.prog 22 #[.int .i64 x, .int .i64 y] w fun e w' => e = .returned (.string s) ∧ w' = w := by
  rw [hx, hy, hs]; exact (basic_any H M hh hm w).mono fun e w' ⟨h1, h2⟩ => ⟨h1, h2.symm⟩
theorem lay_2 (H M : Nat) (hh : H < 100) (hm : M < 100) (s : ByteArray) (hs : s = B (layL 2 H M)) (x y : Int) (hx : x = H) (hy : y = M) (w : World) : Calls Tryd.prog 18 #[.int .i64 x, .int .i64 y] w fun e w' => e = .returned (.string s) ∧ w' = w := by
  rw [hx, hy, hs]; exact (wide_any H M hh hm w).mono fun e w' ⟨h1, h2⟩ => ⟨h1, h2.symm⟩
theorem lay_4 (H M : Nat) (hh : H < 100) (hm : M < 100) (s : ByteArray) (hs : s = B (layL 4 H M)) (x y : Int) (hx : x = H) (hy : y = M) (w : World) : Calls Tryd.prog 18 #[.int .i64 x, .int .i64 y] w fun e w' => e = .returned (.string s) ∧ w' = w := lay_2 H M hh hm s (by rw [hs, wide_4]) x y hx hy w
theorem lay_3 (H M : Nat) (hh : H < 100) (hm : M < 100) (s : ByteArray) (hs : s = B (layL 3 H M)) (x y : Int) (hx : x = H) (hy : y = M) (w : World) : Calls Tryd.prog 20 #[.int .i64 x, .int .i64 y] w fun e w' => e = .returned (.string s) ∧ w' = w := by
  rw [hx, hy, hs]; exact (short_any H M hh hm w).mono fun e w' ⟨h1, h2⟩ => ⟨h1, h2.symm⟩
theorem below_cell {B : Nat} {w w1 : World} (h : Below B w w1) (hB : B ≤ w1.heap.size) (o : Obj) (n : Nat) : Below B w ((w1.alloc o).drewN n) := by
  have h2 := h.alloc hB o
  exact ⟨h2.os, h2.tape, h2.output, h2.size, h2.block⟩
set_option maxHeartbeats 4000000 in
theorem show_kind (k n : Int) (hw : (Lit.int .i64 k).wf = true) (hk : kindB k = false) (w : World) : Calls Tryd.prog 6 #[.int .i64 k, .int .i64 n] w fun e w' => e = .returned (.tuple #[.string (showT k n), .int .i64 (showE k n)]) ∧ Below w.heap.size w w' := by
  rw [(showE_kind hk).1, (showE_kind hk).2]
  have C := Lib.hid (fun w => styles_any w)
  have HL := Lib.hid (fun (w1 : World) (h : w1.ownsMap Tryd.prog 3 heldR w.heap.size 4 stylesD) => look_no h hw hk)
  have hnf := fun (a : Addr) (w : World) => run_store Tryd.prog w a .nilFunc .plain rfl
  go_enter Tryd.func6, Tryd.ntmps6
  go_wp2_with (go_at_call 11; (with_reducible refine (C.out _).mono ?_); rintro e w1 ⟨rfl, hown, hb1⟩; have hlk := HL.out w1 hown)
  go_ret2
  exact ⟨rfl, below_cell hb1 hb1.size _ 0⟩
set_option maxHeartbeats 4000000 in
theorem show_lo (k n : Int) (hk : kindB k = true) (hn : offOk n = false) (a z : ByteArray) (f : Nat) (HL0 : ∀ (w1 : World) (b : Nat) (h : w1.ownsMap Tryd.prog 3 heldR b 4 stylesD), LookAt w1 b k a z f) (hl : n < -57600) (w : World) : Calls Tryd.prog 6 #[.int .i64 k, .int .i64 n] w fun e w' => e = .returned (.tuple #[.string (showT k n), .int .i64 (showE k n)]) ∧ Below w.heap.size w w' := by
  rw [(showE_range hk hn).1, (showE_range hk hn).2]
  have C := Lib.hid (fun w => styles_any w)
  have HL := Lib.hid (fun (w1 : World) h => HL0 w1 w.heap.size h)
  unfold LookAt at HL
  have hnf := fun (w : World) => fun (x : Addr) => run_store Tryd.prog w x (.func (.func f) #[] #[]) .plain rfl
  have hd1 : decide (n < -57600) = true := decide_eq_true hl
  go_enter Tryd.func6, Tryd.ntmps6
  go_wp2_with (go_at_call 11; (with_reducible refine (C.out _).mono ?_); rintro e w1 ⟨rfl, hown, hb1⟩; have hlk := HL.out w1 hown)
  go_ret2
  exact ⟨rfl, below_cell hb1 hb1.size _ 0⟩
set_option maxHeartbeats 4000000 in
theorem show_hi (k n : Int) (hk : kindB k = true) (hn : offOk n = false) (a z : ByteArray) (f : Nat) (HL0 : ∀ (w1 : World) (b : Nat) (h : w1.ownsMap Tryd.prog 3 heldR b 4 stylesD), LookAt w1 b k a z f) (hl : 57600 < n) (w : World) : Calls Tryd.prog 6 #[.int .i64 k, .int .i64 n] w fun e w' => e = .returned (.tuple #[.string (showT k n), .int .i64 (showE k n)]) ∧ Below w.heap.size w w' := by
  rw [(showE_range hk hn).1, (showE_range hk hn).2]
  have C := Lib.hid (fun w => styles_any w)
  have HL := Lib.hid (fun (w1 : World) h => HL0 w1 w.heap.size h)
  unfold LookAt at HL
  have hnf := fun (w : World) => fun (x : Addr) => run_store Tryd.prog w x (.func (.func f) #[] #[]) .plain rfl
  have hd1 : decide (n < -57600) = false := decide_eq_false (by omega)
  have hd2 : decide (57600 < n) = true := decide_eq_true hl
  go_enter Tryd.func6, Tryd.ntmps6
  go_wp2_with (go_at_call 11; (with_reducible refine (C.out _).mono ?_); rintro e w1 ⟨rfl, hown, hb1⟩; have hlk := HL.out w1 hown)
  go_ret2
  exact ⟨rfl, below_cell hb1 hb1.size _ 0⟩
set_option maxHeartbeats 4000000 in
theorem show_mod (k n : Int) (hk : kindB k = true) (hn : offOk n = false) (a z : ByteArray) (f : Nat) (HL0 : ∀ (w1 : World) (b : Nat) (h : w1.ownsMap Tryd.prog 3 heldR b 4 stylesD), LookAt w1 b k a z f) (h1 : -57600 ≤ n) (h2 : n ≤ 57600) (w : World) : Calls Tryd.prog 6 #[.int .i64 k, .int .i64 n] w fun e w' => e = .returned (.tuple #[.string (showT k n), .int .i64 (showE k n)]) ∧ Below w.heap.size w w' := by
  rw [(showE_range hk hn).1, (showE_range hk hn).2]
  have C := Lib.hid (fun w => styles_any w)
  have HL := Lib.hid (fun (w1 : World) h => HL0 w1 w.heap.size h)
  unfold LookAt at HL
  have hnf := fun (w : World) => fun (x : Addr) => run_store Tryd.prog w x (.func (.func f) #[] #[]) .plain rfl
  have hm : ¬ n.tmod 60 = 0 := fun h => by
    rw [offOk_iff.2 ⟨h1, h2, tmod60.1 h⟩] at hn
    cases hn
  have hd1 : decide (n < -57600) = false := decide_eq_false (by omega)
  have hd2 : decide (57600 < n) = false := decide_eq_false (by omega)
  go_enter Tryd.func6, Tryd.ntmps6
  go_wp2_with (go_at_call 11; (with_reducible refine (C.out _).mono ?_); rintro e w1 ⟨rfl, hown, hb1⟩; have hlk := HL.out w1 hown)
  go_ret2
  exact ⟨rfl, below_cell hb1 hb1.size _ 0⟩
set_option maxHeartbeats 4000000 in
theorem show_1n (n : Int) (hn : offOk n = true) (hs : n < 0) (w : World) : Calls Tryd.prog 6 #[.int .i64 1, .int .i64 n] w fun e w' => e = .returned (.tuple #[.string (showT 1 n), .int .i64 (showE 1 n)]) ∧ Below w.heap.size w w' := by
  obtain ⟨h1, h2, h3⟩ := offOk_iff.1 hn
  rw [(showE_ok (by decide) hn).1]
  have ht := tmod60.2 h3
  have C := Lib.hid (fun w => styles_any w)
  have HL := Lib.hid (fun (w1 : World) (h : w1.ownsMap Tryd.prog 3 heldR w.heap.size 4 stylesD) => look_1 h)
  unfold LookAt at HL
  have hnf := fun (w : World) => fun (x : Addr) => run_store Tryd.prog w x (.func (.func 22) #[] #[]) .plain rfl
  obtain ⟨H, hH⟩ : ∃ H : Nat, H = n.natAbs / 60 / 60 := ⟨_, rfl⟩
  obtain ⟨M, hM⟩ : ∃ M : Nat, M = n.natAbs / 60 % 60 := ⟨_, rfl⟩
  obtain ⟨s, hs0⟩ : ∃ s, s = B (layL 1 H M) := ⟨_, rfl⟩
  have D := Lib.hid (lay_1 H M (by omega) (by omega) s hs0)
  have HX : Hid (⟨#[]⟩ ++ ⟨#[45]⟩ ++ s = showT 1 n) := Lib.hid (by
    rw [hs0]
    show B [] ++ B [45] ++ B (layL 1 H M) = _
    rw [B_app, B_app]
    exact showT_of (by decide) hn (by rw [showL_some (by omega), ← hH, ← hM, sg_neg (by omega)]; rfl))
  have s1 : s.size ≤ 6 := by rw [hs0]; exact lay_size _ _ _
  clear hs0
  have hq : n.tdiv 60 < 0 := by
    have := Int.mul_tdiv_add_tmod n 60
    omega
  go_enter Tryd.func6, Tryd.ntmps6
  go_upto_region 11 with (first | (go_at_call 11; (with_reducible refine (C.out _).mono ?_); rintro e w1 ⟨rfl, hown, hb1⟩; have hlk := HL.out w1 hown) | fail)
  all_goals
    go_quiet ((go_at_call 22; exact Calls.quiet_of_same (D.out _ _ (by first | exact (neg_h hs h1).trans (by omega) | exact (neg_h2 hs h1).trans (by omega)) (by exact (neg_s hs h1).trans (by omega)) _)))
    go_wp2
    go_ret2
    exact ⟨retO_pair HX.out, below_cell hb1 hb1.size _ _⟩
set_option maxHeartbeats 4000000 in
theorem show_1q (n : Int) (hn : offOk n = true) (hs : 0 ≤ n) (w : World) : Calls Tryd.prog 6 #[.int .i64 1, .int .i64 n] w fun e w' => e = .returned (.tuple #[.string (showT 1 n), .int .i64 (showE 1 n)]) ∧ Below w.heap.size w w' := by
  obtain ⟨h1, h2, h3⟩ := offOk_iff.1 hn
  rw [(showE_ok (by decide) hn).1]
  have ht := tmod60.2 h3
  have C := Lib.hid (fun w => styles_any w)
  have HL := Lib.hid (fun (w1 : World) (h : w1.ownsMap Tryd.prog 3 heldR w.heap.size 4 stylesD) => look_1 h)
  unfold LookAt at HL
  have hnf := fun (w : World) => fun (x : Addr) => run_store Tryd.prog w x (.func (.func 22) #[] #[]) .plain rfl
  obtain ⟨H, hH⟩ : ∃ H : Nat, H = n.natAbs / 60 / 60 := ⟨_, rfl⟩
  obtain ⟨M, hM⟩ : ∃ M : Nat, M = n.natAbs / 60 % 60 := ⟨_, rfl⟩
  obtain ⟨s, hs0⟩ : ∃ s, s = B (layL 1 H M) := ⟨_, rfl⟩
  have D := Lib.hid (lay_1 H M (by omega) (by omega) s hs0)
  have HX : Hid (⟨#[]⟩ ++ ⟨#[43]⟩ ++ s = showT 1 n) := Lib.hid (by
    rw [hs0]
    show B [] ++ B [43] ++ B (layL 1 H M) = _
    rw [B_app, B_app]
    exact showT_of (by decide) hn (by rw [showL_some (by omega), ← hH, ← hM, sg_pos (by omega)]; rfl))
  have s1 : s.size ≤ 6 := by rw [hs0]; exact lay_size _ _ _
  clear hs0
  have hq : ¬ n.tdiv 60 < 0 := by rw [Int.tdiv_eq_ediv_of_nonneg (by omega)]; omega
  go_enter Tryd.func6, Tryd.ntmps6
  go_upto_region 11 with (first | (go_at_call 11; (with_reducible refine (C.out _).mono ?_); rintro e w1 ⟨rfl, hown, hb1⟩; have hlk := HL.out w1 hown) | fail)
  all_goals
    go_quiet ((go_at_call 22; exact Calls.quiet_of_same (D.out _ _ (by first | omega | exact pos_h (by omega) (by omega) hH) (by first | omega | exact pos_s (by omega) (by omega) hM) _)))
    go_wp2
    go_ret2
    exact ⟨retO_pair HX.out, below_cell hb1 hb1.size _ _⟩
set_option maxHeartbeats 4000000 in
theorem show_2z (n : Int) (hn : offOk n = true) (hs : n = 0) (w : World) : Calls Tryd.prog 6 #[.int .i64 2, .int .i64 n] w fun e w' => e = .returned (.tuple #[.string (showT 2 n), .int .i64 (showE 2 n)]) ∧ Below w.heap.size w w' := by
  obtain ⟨h1, h2, h3⟩ := offOk_iff.1 hn
  rw [(showE_ok (by decide) hn).1]
  have ht := tmod60.2 h3
  have C := Lib.hid (fun w => styles_any w)
  have HL := Lib.hid (fun (w1 : World) (h : w1.ownsMap Tryd.prog 3 heldR w.heap.size 4 stylesD) => look_2 h)
  unfold LookAt at HL
  have hnf := fun (w : World) => fun (x : Addr) => run_store Tryd.prog w x (.func (.func 18) #[] #[]) .plain rfl
  have HX : Hid ((⟨#[90]⟩ : ByteArray) = showT 2 n) := Lib.hid (showT_of (l := [90]) (by decide) hn (by rw [showL_zero hs (by decide)]; rfl))
  subst hs
  go_enter Tryd.func6, Tryd.ntmps6
  go_wp2_with (go_at_call 11; (with_reducible refine (C.out _).mono ?_); rintro e w1 ⟨rfl, hown, hb1⟩; have hlk := HL.out w1 hown)
  go_ret2
  exact ⟨retO_pair HX.out, below_cell hb1 hb1.size _ 0⟩
set_option maxHeartbeats 4000000 in
theorem show_2n (n : Int) (hn : offOk n = true) (hs : n < 0) (w : World) : Calls Tryd.prog 6 #[.int .i64 2, .int .i64 n] w fun e w' => e = .returned (.tuple #[.string (showT 2 n), .int .i64 (showE 2 n)]) ∧ Below w.heap.size w w' := by
  obtain ⟨h1, h2, h3⟩ := offOk_iff.1 hn
  rw [(showE_ok (by decide) hn).1]
  have ht := tmod60.2 h3
  have C := Lib.hid (fun w => styles_any w)
  have HL := Lib.hid (fun (w1 : World) (h : w1.ownsMap Tryd.prog 3 heldR w.heap.size 4 stylesD) => look_2 h)
  unfold LookAt at HL
  have hnf := fun (w : World) => fun (x : Addr) => run_store Tryd.prog w x (.func (.func 18) #[] #[]) .plain rfl
  obtain ⟨H, hH⟩ : ∃ H : Nat, H = n.natAbs / 60 / 60 := ⟨_, rfl⟩
  obtain ⟨M, hM⟩ : ∃ M : Nat, M = n.natAbs / 60 % 60 := ⟨_, rfl⟩
  obtain ⟨s, hs0⟩ : ∃ s, s = B (layL 2 H M) := ⟨_, rfl⟩
  have D := Lib.hid (lay_2 H M (by omega) (by omega) s hs0)
  have HX : Hid (⟨#[]⟩ ++ ⟨#[45]⟩ ++ s = showT 2 n) := Lib.hid (by
    rw [hs0]
    show B [] ++ B [45] ++ B (layL 2 H M) = _
    rw [B_app, B_app]
    exact showT_of (by decide) hn (by rw [showL_some (by omega), ← hH, ← hM, sg_neg (by omega)]; rfl))
  have s1 : s.size ≤ 6 := by rw [hs0]; exact lay_size _ _ _
  clear hs0
  have hq : n.tdiv 60 < 0 := by
    have := Int.mul_tdiv_add_tmod n 60
    omega
  go_enter Tryd.func6, Tryd.ntmps6
  go_upto_region 11 with (first | (go_at_call 11; (with_reducible refine (C.out _).mono ?_); rintro e w1 ⟨rfl, hown, hb1⟩; have hlk := HL.out w1 hown) | fail)
  all_goals
    go_quiet ((go_at_call 18; exact Calls.quiet_of_same (D.out _ _ (by first | exact (neg_h hs h1).trans (by omega) | exact (neg_h2 hs h1).trans (by omega)) (by exact (neg_s hs h1).trans (by omega)) _)))
    go_wp2
    go_ret2
    exact ⟨retO_pair HX.out, below_cell hb1 hb1.size _ _⟩
set_option maxHeartbeats 4000000 in
theorem show_2p (n : Int) (hn : offOk n = true) (hs : 0 < n) (w : World) : Calls Tryd.prog 6 #[.int .i64 2, .int .i64 n] w fun e w' => e = .returned (.tuple #[.string (showT 2 n), .int .i64 (showE 2 n)]) ∧ Below w.heap.size w w' := by
  obtain ⟨h1, h2, h3⟩ := offOk_iff.1 hn
  rw [(showE_ok (by decide) hn).1]
  have ht := tmod60.2 h3
  have C := Lib.hid (fun w => styles_any w)
  have HL := Lib.hid (fun (w1 : World) (h : w1.ownsMap Tryd.prog 3 heldR w.heap.size 4 stylesD) => look_2 h)
  unfold LookAt at HL
  have hnf := fun (w : World) => fun (x : Addr) => run_store Tryd.prog w x (.func (.func 18) #[] #[]) .plain rfl
  obtain ⟨H, hH⟩ : ∃ H : Nat, H = n.natAbs / 60 / 60 := ⟨_, rfl⟩
  obtain ⟨M, hM⟩ : ∃ M : Nat, M = n.natAbs / 60 % 60 := ⟨_, rfl⟩
  obtain ⟨s, hs0⟩ : ∃ s, s = B (layL 2 H M) := ⟨_, rfl⟩
  have D := Lib.hid (lay_2 H M (by omega) (by omega) s hs0)
  have HX : Hid (⟨#[]⟩ ++ ⟨#[43]⟩ ++ s = showT 2 n) := Lib.hid (by
    rw [hs0]
    show B [] ++ B [43] ++ B (layL 2 H M) = _
    rw [B_app, B_app]
    exact showT_of (by decide) hn (by rw [showL_some (by omega), ← hH, ← hM, sg_pos (by omega)]; rfl))
  have s1 : s.size ≤ 6 := by rw [hs0]; exact lay_size _ _ _
  clear hs0
  have hq : ¬ n.tdiv 60 < 0 := by rw [Int.tdiv_eq_ediv_of_nonneg (by omega)]; omega
  go_enter Tryd.func6, Tryd.ntmps6
  go_upto_region 11 with (first | (go_at_call 11; (with_reducible refine (C.out _).mono ?_); rintro e w1 ⟨rfl, hown, hb1⟩; have hlk := HL.out w1 hown) | fail)
  all_goals
    go_quiet ((go_at_call 18; exact Calls.quiet_of_same (D.out _ _ (by first | omega | exact pos_h (by omega) (by omega) hH) (by first | omega | exact pos_s (by omega) (by omega) hM) _)))
    go_wp2
    go_ret2
    exact ⟨retO_pair HX.out, below_cell hb1 hb1.size _ _⟩
set_option maxHeartbeats 4000000 in
theorem show_3z (n : Int) (hn : offOk n = true) (hs : n = 0) (w : World) : Calls Tryd.prog 6 #[.int .i64 3, .int .i64 n] w fun e w' => e = .returned (.tuple #[.string (showT 3 n), .int .i64 (showE 3 n)]) ∧ Below w.heap.size w w' := by
  obtain ⟨h1, h2, h3⟩ := offOk_iff.1 hn
  rw [(showE_ok (by decide) hn).1]
  have ht := tmod60.2 h3
  have C := Lib.hid (fun w => styles_any w)
  have HL := Lib.hid (fun (w1 : World) (h : w1.ownsMap Tryd.prog 3 heldR w.heap.size 4 stylesD) => look_3 h)
  unfold LookAt at HL
  have hnf := fun (w : World) => fun (x : Addr) => run_store Tryd.prog w x (.func (.func 20) #[] #[]) .plain rfl
  have HX : Hid ((⟨#[71, 77, 84]⟩ : ByteArray) = showT 3 n) := Lib.hid (showT_of (l := [71, 77, 84]) (by decide) hn (by rw [showL_zero hs (by decide)]; rfl))
  subst hs
  go_enter Tryd.func6, Tryd.ntmps6
  go_wp2_with (go_at_call 11; (with_reducible refine (C.out _).mono ?_); rintro e w1 ⟨rfl, hown, hb1⟩; have hlk := HL.out w1 hown)
  go_ret2
  exact ⟨retO_pair HX.out, below_cell hb1 hb1.size _ 0⟩
set_option maxHeartbeats 4000000 in
theorem show_3n (n : Int) (hn : offOk n = true) (hs : n < 0) (w : World) : Calls Tryd.prog 6 #[.int .i64 3, .int .i64 n] w fun e w' => e = .returned (.tuple #[.string (showT 3 n), .int .i64 (showE 3 n)]) ∧ Below w.heap.size w w' := by
  obtain ⟨h1, h2, h3⟩ := offOk_iff.1 hn
  rw [(showE_ok (by decide) hn).1]
  have ht := tmod60.2 h3
  have C := Lib.hid (fun w => styles_any w)
  have HL := Lib.hid (fun (w1 : World) (h : w1.ownsMap Tryd.prog 3 heldR w.heap.size 4 stylesD) => look_3 h)
  unfold LookAt at HL
  have hnf := fun (w : World) => fun (x : Addr) => run_store Tryd.prog w x (.func (.func 20) #[] #[]) .plain rfl
  obtain ⟨H, hH⟩ : ∃ H : Nat, H = n.natAbs / 60 / 60 := ⟨_, rfl⟩
  obtain ⟨M, hM⟩ : ∃ M : Nat, M = n.natAbs / 60 % 60 := ⟨_, rfl⟩
  obtain ⟨s, hs0⟩ : ∃ s, s = B (layL 3 H M) := ⟨_, rfl⟩
  have D := Lib.hid (lay_3 H M (by omega) (by omega) s hs0)
  have HX : Hid (⟨#[71, 77, 84]⟩ ++ ⟨#[45]⟩ ++ s = showT 3 n) := Lib.hid (by
    rw [hs0]
    show B [71, 77, 84] ++ B [45] ++ B (layL 3 H M) = _
    rw [B_app, B_app]
    exact showT_of (by decide) hn (by rw [showL_some (by omega), ← hH, ← hM, sg_neg (by omega)]; rfl))
  have s1 : s.size ≤ 6 := by rw [hs0]; exact lay_size _ _ _
  clear hs0
  have hq : n.tdiv 60 < 0 := by
    have := Int.mul_tdiv_add_tmod n 60
    omega
  go_enter Tryd.func6, Tryd.ntmps6
  go_upto_region 11 with (first | (go_at_call 11; (with_reducible refine (C.out _).mono ?_); rintro e w1 ⟨rfl, hown, hb1⟩; have hlk := HL.out w1 hown) | fail)
  all_goals
    go_quiet ((go_at_call 20; exact Calls.quiet_of_same (D.out _ _ (by first | exact (neg_h hs h1).trans (by omega) | exact (neg_h2 hs h1).trans (by omega)) (by exact (neg_s hs h1).trans (by omega)) _)))
    go_wp2
    go_ret2
    exact ⟨retO_pair HX.out, below_cell hb1 hb1.size _ _⟩
set_option maxHeartbeats 4000000 in
theorem show_3p (n : Int) (hn : offOk n = true) (hs : 0 < n) (w : World) : Calls Tryd.prog 6 #[.int .i64 3, .int .i64 n] w fun e w' => e = .returned (.tuple #[.string (showT 3 n), .int .i64 (showE 3 n)]) ∧ Below w.heap.size w w' := by
  obtain ⟨h1, h2, h3⟩ := offOk_iff.1 hn
  rw [(showE_ok (by decide) hn).1]
  have ht := tmod60.2 h3
  have C := Lib.hid (fun w => styles_any w)
  have HL := Lib.hid (fun (w1 : World) (h : w1.ownsMap Tryd.prog 3 heldR w.heap.size 4 stylesD) => look_3 h)
  unfold LookAt at HL
  have hnf := fun (w : World) => fun (x : Addr) => run_store Tryd.prog w x (.func (.func 20) #[] #[]) .plain rfl
  obtain ⟨H, hH⟩ : ∃ H : Nat, H = n.natAbs / 60 / 60 := ⟨_, rfl⟩
  obtain ⟨M, hM⟩ : ∃ M : Nat, M = n.natAbs / 60 % 60 := ⟨_, rfl⟩
  obtain ⟨s, hs0⟩ : ∃ s, s = B (layL 3 H M) := ⟨_, rfl⟩
  have D := Lib.hid (lay_3 H M (by omega) (by omega) s hs0)
  have HX : Hid (⟨#[71, 77, 84]⟩ ++ ⟨#[43]⟩ ++ s = showT 3 n) := Lib.hid (by
    rw [hs0]
    show B [71, 77, 84] ++ B [43] ++ B (layL 3 H M) = _
    rw [B_app, B_app]
    exact showT_of (by decide) hn (by rw [showL_some (by omega), ← hH, ← hM, sg_pos (by omega)]; rfl))
  have s1 : s.size ≤ 6 := by rw [hs0]; exact lay_size _ _ _
  clear hs0
  have hq : ¬ n.tdiv 60 < 0 := by rw [Int.tdiv_eq_ediv_of_nonneg (by omega)]; omega
  go_enter Tryd.func6, Tryd.ntmps6
  go_upto_region 11 with (first | (go_at_call 11; (with_reducible refine (C.out _).mono ?_); rintro e w1 ⟨rfl, hown, hb1⟩; have hlk := HL.out w1 hown) | fail)
  all_goals
    go_quiet ((go_at_call 20; exact Calls.quiet_of_same (D.out _ _ (by first | omega | exact pos_h (by omega) (by omega) hH) (by first | omega | exact pos_s (by omega) (by omega) hM) _)))
    go_wp2
    go_ret2
    exact ⟨retO_pair HX.out, below_cell hb1 hb1.size _ _⟩
set_option maxHeartbeats 4000000 in
theorem show_4z (n : Int) (hn : offOk n = true) (hs : n = 0) (w : World) : Calls Tryd.prog 6 #[.int .i64 4, .int .i64 n] w fun e w' => e = .returned (.tuple #[.string (showT 4 n), .int .i64 (showE 4 n)]) ∧ Below w.heap.size w w' := by
  obtain ⟨h1, h2, h3⟩ := offOk_iff.1 hn
  rw [(showE_ok (by decide) hn).1]
  have ht := tmod60.2 h3
  have C := Lib.hid (fun w => styles_any w)
  have HL := Lib.hid (fun (w1 : World) (h : w1.ownsMap Tryd.prog 3 heldR w.heap.size 4 stylesD) => look_4 h)
  unfold LookAt at HL
  have hnf := fun (w : World) => fun (x : Addr) => run_store Tryd.prog w x (.func (.func 18) #[] #[]) .plain rfl
  have HX : Hid ((⟨#[71, 77, 84]⟩ : ByteArray) = showT 4 n) := Lib.hid (showT_of (l := [71, 77, 84]) (by decide) hn (by rw [showL_zero hs (by decide)]; rfl))
  subst hs
  go_enter Tryd.func6, Tryd.ntmps6
  go_wp2_with (go_at_call 11; (with_reducible refine (C.out _).mono ?_); rintro e w1 ⟨rfl, hown, hb1⟩; have hlk := HL.out w1 hown)
  go_ret2
  exact ⟨retO_pair HX.out, below_cell hb1 hb1.size _ 0⟩
set_option maxHeartbeats 4000000 in
theorem show_4n (n : Int) (hn : offOk n = true) (hs : n < 0) (w : World) : Calls Tryd.prog 6 #[.int .i64 4, .int .i64 n] w fun e w' => e = .returned (.tuple #[.string (showT 4 n), .int .i64 (showE 4 n)]) ∧ Below w.heap.size w w' := by
  obtain ⟨h1, h2, h3⟩ := offOk_iff.1 hn
  rw [(showE_ok (by decide) hn).1]
  have ht := tmod60.2 h3
  have C := Lib.hid (fun w => styles_any w)
  have HL := Lib.hid (fun (w1 : World) (h : w1.ownsMap Tryd.prog 3 heldR w.heap.size 4 stylesD) => look_4 h)
  unfold LookAt at HL
  have hnf := fun (w : World) => fun (x : Addr) => run_store Tryd.prog w x (.func (.func 18) #[] #[]) .plain rfl
  obtain ⟨H, hH⟩ : ∃ H : Nat, H = n.natAbs / 60 / 60 := ⟨_, rfl⟩
  obtain ⟨M, hM⟩ : ∃ M : Nat, M = n.natAbs / 60 % 60 := ⟨_, rfl⟩
  obtain ⟨s, hs0⟩ : ∃ s, s = B (layL 4 H M) := ⟨_, rfl⟩
  have D := Lib.hid (lay_4 H M (by omega) (by omega) s hs0)
  have HX : Hid (⟨#[71, 77, 84]⟩ ++ ⟨#[45]⟩ ++ s = showT 4 n) := Lib.hid (by
    rw [hs0]
    show B [71, 77, 84] ++ B [45] ++ B (layL 4 H M) = _
    rw [B_app, B_app]
    exact showT_of (by decide) hn (by rw [showL_some (by omega), ← hH, ← hM, sg_neg (by omega)]; rfl))
  have s1 : s.size ≤ 6 := by rw [hs0]; exact lay_size _ _ _
  clear hs0
  have hq : n.tdiv 60 < 0 := by
    have := Int.mul_tdiv_add_tmod n 60
    omega
  go_enter Tryd.func6, Tryd.ntmps6
  go_upto_region 11 with (first | (go_at_call 11; (with_reducible refine (C.out _).mono ?_); rintro e w1 ⟨rfl, hown, hb1⟩; have hlk := HL.out w1 hown) | fail)
  all_goals
    go_quiet ((go_at_call 18; exact Calls.quiet_of_same (D.out _ _ (by first | exact (neg_h hs h1).trans (by omega) | exact (neg_h2 hs h1).trans (by omega)) (by exact (neg_s hs h1).trans (by omega)) _)))
    go_wp2
    go_ret2
    exact ⟨retO_pair HX.out, below_cell hb1 hb1.size _ _⟩
set_option maxHeartbeats 4000000 in
theorem show_4p (n : Int) (hn : offOk n = true) (hs : 0 < n) (w : World) : Calls Tryd.prog 6 #[.int .i64 4, .int .i64 n] w fun e w' => e = .returned (.tuple #[.string (showT 4 n), .int .i64 (showE 4 n)]) ∧ Below w.heap.size w w' := by
  obtain ⟨h1, h2, h3⟩ := offOk_iff.1 hn
  rw [(showE_ok (by decide) hn).1]
  have ht := tmod60.2 h3
  have C := Lib.hid (fun w => styles_any w)
  have HL := Lib.hid (fun (w1 : World) (h : w1.ownsMap Tryd.prog 3 heldR w.heap.size 4 stylesD) => look_4 h)
  unfold LookAt at HL
  have hnf := fun (w : World) => fun (x : Addr) => run_store Tryd.prog w x (.func (.func 18) #[] #[]) .plain rfl
  obtain ⟨H, hH⟩ : ∃ H : Nat, H = n.natAbs / 60 / 60 := ⟨_, rfl⟩
  obtain ⟨M, hM⟩ : ∃ M : Nat, M = n.natAbs / 60 % 60 := ⟨_, rfl⟩
  obtain ⟨s, hs0⟩ : ∃ s, s = B (layL 4 H M) := ⟨_, rfl⟩
  have D := Lib.hid (lay_4 H M (by omega) (by omega) s hs0)
  have HX : Hid (⟨#[71, 77, 84]⟩ ++ ⟨#[43]⟩ ++ s = showT 4 n) := Lib.hid (by
    rw [hs0]
    show B [71, 77, 84] ++ B [43] ++ B (layL 4 H M) = _
    rw [B_app, B_app]
    exact showT_of (by decide) hn (by rw [showL_some (by omega), ← hH, ← hM, sg_pos (by omega)]; rfl))
  have s1 : s.size ≤ 6 := by rw [hs0]; exact lay_size _ _ _
  clear hs0
  have hq : ¬ n.tdiv 60 < 0 := by rw [Int.tdiv_eq_ediv_of_nonneg (by omega)]; omega
  go_enter Tryd.func6, Tryd.ntmps6
  go_upto_region 11 with (first | (go_at_call 11; (with_reducible refine (C.out _).mono ?_); rintro e w1 ⟨rfl, hown, hb1⟩; have hlk := HL.out w1 hown) | fail)
  all_goals
    go_quiet ((go_at_call 18; exact Calls.quiet_of_same (D.out _ _ (by first | omega | exact pos_h (by omega) (by omega) hH) (by first | omega | exact pos_s (by omega) (by omega) hM) _)))
    go_wp2
    go_ret2
    exact ⟨retO_pair HX.out, below_cell hb1 hb1.size _ _⟩
theorem show_range (k n : Int) (hk : kindB k = true) (hn : offOk n = false) (a z : ByteArray) (f : Nat) (HL0 : ∀ (w1 : World) (b : Nat) (h : w1.ownsMap Tryd.prog 3 heldR b 4 stylesD), LookAt w1 b k a z f) (w : World) : Calls Tryd.prog 6 #[.int .i64 k, .int .i64 n] w fun e w' => e = .returned (.tuple #[.string (showT k n), .int .i64 (showE k n)]) ∧ Below w.heap.size w w' := by
  by_cases h1 : n < -57600
  · exact show_lo k n hk hn a z f HL0 h1 w
  · by_cases h2 : 57600 < n
    · exact show_hi k n hk hn a z f HL0 h2 w
    · exact show_mod k n hk hn a z f HL0 (by omega) (by omega) w
theorem show_any (k n : Int) (hw : (Lit.int .i64 k).wf = true) (w : World) : Calls Tryd.prog 6 #[.int .i64 k, .int .i64 n] w fun e w' => e = .returned (.tuple #[.string (showT k n), .int .i64 (showE k n)]) ∧ Below w.heap.size w w' := by
  cases hk : kindB k
  · exact show_kind k n hw hk w
  · have h := kindB_iff.1 hk
    have hx : k = 1 ∨ k = 2 ∨ k = 3 ∨ k = 4 := by omega
    cases hn : offOk n
    · rcases hx with rfl | rfl | rfl | rfl
      · exact show_range 1 n hk hn _ _ _ (fun _ _ h => look_1 h) w
      · exact show_range 2 n hk hn _ _ _ (fun _ _ h => look_2 h) w
      · exact show_range 3 n hk hn _ _ _ (fun _ _ h => look_3 h) w
      · exact show_range 4 n hk hn _ _ _ (fun _ _ h => look_4 h) w
    · rcases hx with rfl | rfl | rfl | rfl
      · by_cases hs : n < 0
        · exact show_1n n hn hs w
        · exact show_1q n hn (by omega) w
      · by_cases hz : n = 0
        · exact show_2z n hn hz w
        · by_cases hs : n < 0
          · exact show_2n n hn hs w
          · exact show_2p n hn (by omega) w
      · by_cases hz : n = 0
        · exact show_3z n hn hz w
        · by_cases hs : n < 0
          · exact show_3n n hn hs w
          · exact show_3p n hn (by omega) w
      · by_cases hz : n = 0
        · exact show_4z n hn hz w
        · by_cases hs : n < 0
          · exact show_4n n hn hs w
          · exact show_4p n hn (by omega) w
end Go.Proofs.YtggepbkhhnhnkaaDoor
