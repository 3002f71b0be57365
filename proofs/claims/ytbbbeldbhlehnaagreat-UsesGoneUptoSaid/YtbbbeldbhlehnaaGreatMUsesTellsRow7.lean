/- Parts of a proof, laid together. -/
import Derived.Deep.QuietTactic
import Derived.BigQuiet
import Derived.Test.YtbbbeldbhlehnaaGreatMUsesTellsRow4
import Derived.Test.YtbbbeldbhlehnaaGreatMUsesTellsRow0
set_option linter.unusedSimpArgs false
set_option linter.unusedVariables false
/-! The walks of package pick. -/
section
set_option linter.unusedVariables false
set_option linter.unusedSimpArgs false
namespace Go.Proofs.YtbbbeldbhlehnaaGreat
open Go.RowKit Gno

theorem pcheck_any (k wk d : Int) (w : World) :
    Calls Tryz.prog 99 #[.agg #[.int .i64 k, .int .i64 wk, .int .i64 d]] w fun e w' => e = .returned (.int .i64 (onE k wk d)) ∧ Below w.heap.size w w' := by
  by_cases h1 : k = 1
  · subst h1
    by_cases h2 : wk = 0
    · subst h2
      go_enter Tryz.func99, Tryz.ntmps99
      go_wp2
      all_goals
        go_ret
        exact ⟨ret_int (by unfold onE; simp; try omega), (Below.refl _ _).alloc (Nat.le_refl _) _⟩
    · have hb : (wk != 0) = true := by simpa using h2
      go_enter Tryz.func99, Tryz.ntmps99
      go_wp2
      all_goals
        go_ret
        exact ⟨ret_int (by unfold onE; simp; try omega), (Below.refl _ _).alloc (Nat.le_refl _) _⟩
  · by_cases h2 : k = 2
    · subst h2
      go_enter Tryz.func99, Tryz.ntmps99
      go_wp2
      all_goals
        go_ret
        exact ⟨ret_int (by unfold onE; simp; try omega), (Below.refl _ _).alloc (Nat.le_refl _) _⟩
    · by_cases h3 : k = 3
      · subst h3
        go_enter Tryz.func99, Tryz.ntmps99
        go_wp2
        all_goals
          go_ret
          exact ⟨ret_int (by unfold onE; simp; try omega), (Below.refl _ _).alloc (Nat.le_refl _) _⟩
      · have b1 : (k == 1) = false := by simpa using h1
        have b2 : (k == 2) = false := by simpa using h2
        have b3 : (k == 3) = false := by simpa using h3
        go_enter Tryz.func99, Tryz.ntmps99
        go_wp2
        all_goals
          go_ret
          exact ⟨ret_int (by unfold onE; rw [if_neg h1, if_neg h2, if_neg h3]), (Below.refl _ _).alloc (Nat.le_refl _) _⟩

theorem find1_any (c x : Int) (B : Nat) (w : World) (hc : w.cell? ⟨B, 0, none⟩ = some (.int .i64 c)) (c1 : 0 ≤ c) (c2 : c ≤ 21914) (x1 : 0 ≤ x) (x2 : x ≤ 100) :
    Calls Tryz.prog 126 #[.int .i64 x, .pointer (some ⟨B, 0, none⟩)] w fun e w' => e = .returned (.int .i64 ((c + x + 3) % 7)) ∧ w = w' := by
  go_enter Tryz.func126, Tryz.ntmps126
  go_wp2
  go_ret
  exact ⟨rfl, rfl⟩
end Go.Proofs.YtbbbeldbhlehnaaGreat
end
/-! The walk of pick.Find. -/
section
set_option linter.unusedVariables false
set_option linter.unusedSimpArgs false
namespace Go.Proofs.YtbbbeldbhlehnaaGreat
open Go.RowKit Gno

theorem bcell {W w1 : World} (hb : Below W.heap.size W w1) : (∀ b o, b < W.heap.size → w1.cell? ⟨b, o, none⟩ = W.cell? ⟨b, o, none⟩) ∧ (∀ b o, b < W.heap.size → w1.frozen? ⟨b, o, none⟩ = W.frozen? ⟨b, o, none⟩) :=
  ⟨fun b o h => hb.cell (p := ⟨b, o, none⟩) h, fun b o h => hb.frozen (p := ⟨b, o, none⟩) h⟩

theorem ret_ii {k k' : IntKind} {a b a' b' : Int} (h : a = b) (h' : a' = b') : Ending.returned (.tuple #[.int k a, .int k' a']) = .returned (.tuple #[.int k b, .int k' b']) := by rw [h, h']

theorem below_drewN {B : Nat} {a w : World} (h : Below B a w) (n : Nat) : Below B a (w.drewN n) := ⟨h.os, h.tape, h.output, h.size, h.block⟩

theorem find_bad (y m k wk d : Int) (w : World) (h : onE k wk d ≠ 0) :
    Calls Tryz.prog 100 #[.int .i64 y, .int .i64 m, .agg #[.int .i64 k, .int .i64 wk, .int .i64 d]] w fun e w' => e = .returned (.tuple #[.int .i64 0, .int .i64 (onE k wk d)]) ∧ Below w.heap.size w w' := by
  have hb : (onE k wk d != 0) = true := by simpa using h
  clear h
  go_enter Tryz.func100, Tryz.ntmps100
  go_wp2_with (go_at_call 99; refine (pcheck_any _ _ _ _).mono ?_; rintro e w1 ⟨rfl, hb1⟩)
  go_ret2
  exact ⟨rfl, ((Below.refl _ _).alloc (Nat.le_refl _) _).trans (hb1.mono (by simp))⟩

theorem isYM_iff (y m : Int) : isYM y m = true ↔ (1970 ≤ y ∧ y ≤ 2029) ∧ (1 ≤ m ∧ m ≤ 12) := by simp [isYM, isYear, isMonth]

theorem find_none (y m k wk d : Int) (w : World) (h : onE k wk d = 0) (hy : isYM y m = false) :
    Calls Tryz.prog 100 #[.int .i64 y, .int .i64 m, .agg #[.int .i64 k, .int .i64 wk, .int .i64 d]] w fun e w' => e = .returned (.tuple #[.int .i64 0, .int .i64 3]) ∧ Below w.heap.size w w' := by
  have hb : (onE k wk d != 0) = false := by simpa using h
  have hn : ¬ (1970 ≤ y ∧ y ≤ 2029 ∧ 1 ≤ m ∧ m ≤ 12) := fun x => by
    rw [(isYM_iff y m).2 ⟨⟨x.1, x.2.1⟩, x.2.2.1, x.2.2.2⟩] at hy; cases hy
  have S := Lib.hid (fun w => size_no y m w hn)
  clear h hy hn
  go_enter Tryz.func100, Tryz.ntmps100
  go_wp2_with (first
    | (go_at_call 99; refine (pcheck_any _ _ _ _).mono ?_; rintro e w1 ⟨rfl, hb1⟩)
    | (go_at_call 124; refine (S.out _).mono ?_; rintro e w' ⟨rfl, rfl⟩))
  go_ret2
  exact ⟨rfl, ((Below.refl _ _).alloc (Nat.le_refl _) _).trans (hb1.mono (by simp))⟩

/-- the two answers, where the On and the month are right. -/
theorem find_lt (y m k wk d : Int) (h : onE k wk d = 0) (hy : isYM y m = true) (hl : size y m < findR y m k wk d) : findN y m k wk d = 0 ∧ findE y m k wk d = 4 := by
  unfold findN findE
  simp [h, hy, hl]
theorem find_ge (y m k wk d : Int) (h : onE k wk d = 0) (hy : isYM y m = true) (hl : ¬ size y m < findR y m k wk d) : findN y m k wk d = findR y m k wk d ∧ findE y m k wk d = 0 := by
  unfold findN findE
  simp [h, hy, hl]

set_option maxHeartbeats 1000000 in
theorem find_ok (y m k wk d : Int) (w : World) (h : onE k wk d = 0) (hy : isYM y m = true) :
    Calls Tryz.prog 100 #[.int .i64 y, .int .i64 m, .agg #[.int .i64 k, .int .i64 wk, .int .i64 d]] w fun e w' =>
      e = .returned (.tuple #[.int .i64 (findN y m k wk d), .int .i64 (findE y m k wk d)]) ∧ Below w.heap.size w w' := by
  have hb : (onE k wk d != 0) = false := by simpa using h
  obtain ⟨⟨y1, y2⟩, m1, m2⟩ := (isYM_iff y m).1 hy
  have hs := size_bd y m m1 m2
  have hd := (isDate_iff y m 1).2 ⟨⟨y1, y2⟩, ⟨m1, m2⟩, by omega, by omega⟩
  have hf := (isDay_iff _).1 (day_of y m 1 hd).1
  have S := Lib.hid (fun w => size_yes y m w y1 y2 m1 m2)
  have D := Lib.hid (fun w => days_yes y m 1 w hd)
  have hlt := find_lt y m k wk d h hy
  have hge := find_ge y m k wk d h hy
  obtain ⟨f, hfe⟩ : ∃ f, f = num y m 1 := ⟨_, rfl⟩
  obtain ⟨s, hse⟩ : ∃ s, s = size y m := ⟨_, rfl⟩
  have hR : findR y m k wk d = pickR k wk d (f + 3) s := by unfold findR pick1; rw [hfe, hse]
  rw [← hfe] at D hf
  rw [← hse] at S hs
  rw [hR, ← hse] at hlt hge
  have HC := onE_ok h
  have hsb : (s == 0) = false := by simp; omega
  obtain ⟨f1, f2⟩ := hf
  obtain ⟨s1, s2⟩ := hs
  clear h hy hd hfe hse hR y1 y2 m1 m2
  rcases HC with ⟨rfl, rfl, d1, d2⟩ | ⟨rfl, ⟨k1, k2⟩, rfl⟩ | ⟨rfl, ⟨k1, k2⟩, d1, d2⟩
  · rw [exact_is] at hlt hge
    by_cases hl : s < d
    · have HN := Lib.hid (hlt hl).1
      have HX := Lib.hid (hlt hl).2
      clear hlt hge
      go_enter Tryz.func100, Tryz.ntmps100
      go_wp2_with (first
        | (go_at_call 99; refine (pcheck_any _ _ _ _).mono ?_; rintro e w1 ⟨rfl, hb1⟩; obtain ⟨hc, hfz⟩ := bcell hb1; have hz : w.heap.size < w1.heap.size := (by have := hb1.size; simp at this; omega); have hbw : Below w.heap.size w w1 := ((Below.refl _ _).alloc (Nat.le_refl _) _).trans (hb1.mono (by simp)))
        | (go_at_call 124; refine (S.out _).mono ?_; rintro e w' ⟨rfl, rfl⟩)
        | (go_at_call 125; refine (D.out _).mono ?_; rintro e w' ⟨rfl, rfl⟩))
      go_ret2
      refine ⟨ret_ii (by rw [HN.out]) (by rw [HX.out]), ?_⟩
      go_grown
    · have HN := Lib.hid (hge hl).1
      have HX := Lib.hid (hge hl).2
      clear hlt hge
      go_enter Tryz.func100, Tryz.ntmps100
      go_wp2_with (first
        | (go_at_call 99; refine (pcheck_any _ _ _ _).mono ?_; rintro e w1 ⟨rfl, hb1⟩; obtain ⟨hc, hfz⟩ := bcell hb1; have hz : w.heap.size < w1.heap.size := (by have := hb1.size; simp at this; omega); have hbw : Below w.heap.size w w1 := ((Below.refl _ _).alloc (Nat.le_refl _) _).trans (hb1.mono (by simp)))
        | (go_at_call 124; refine (S.out _).mono ?_; rintro e w' ⟨rfl, rfl⟩)
        | (go_at_call 125; refine (D.out _).mono ?_; rintro e w' ⟨rfl, rfl⟩))
      go_ret2
      refine ⟨ret_ii (by rw [HN.out]) (by rw [HX.out]), ?_⟩
      go_grown
  · have hli := last_is wk 0 (f + 3) s k1 k2
    have hr : pickR 2 wk 0 (f + 3) s = s - ((f + s + 3) % 7 - wk + 7) % 7 := by
      unfold pickR; rw [if_pos rfl, show f + 3 + s = f + s + 3 by omega]
    have hl : ¬ s < pickR 2 wk 0 (f + 3) s := by omega
    have HN := Lib.hid (hge hl).1
    have HX := Lib.hid (hge hl).2
    rw [hr] at HN
    have hq : 0 ≤ (f + s + 3) % 7 ∧ (f + s + 3) % 7 ≤ 6 := by omega
    obtain ⟨q1, q2⟩ := hq
    have hq3 : ¬ s < s - ((f + s + 3) % 7 - wk + 7) % 7 := by omega
    clear hlt hge hli hr hl
    · go_enter Tryz.func100, Tryz.ntmps100
      go_wp2_with (first
        | (go_at_call 99; refine (pcheck_any _ _ _ _).mono ?_; rintro e w1 ⟨rfl, hb1⟩; obtain ⟨hc, hfz⟩ := bcell hb1; have hz : w.heap.size < w1.heap.size := (by have := hb1.size; simp at this; omega); have hbw : Below w.heap.size w w1 := ((Below.refl _ _).alloc (Nat.le_refl _) _).trans (hb1.mono (by simp)))
        | (go_at_call 124; refine (S.out _).mono ?_; rintro e w' ⟨rfl, rfl⟩)
        | (go_at_call 125; refine (D.out _).mono ?_; rintro e w' ⟨rfl, rfl⟩))
      go_quiet ((go_at_call 126; exact Calls.quiet_of_same ((find1_any f s w1.heap.size _ (by simp) f1 f2 (by omega) (by omega)).mono fun _ _ h => ⟨h.1, h.2.symm⟩)))
      go_wp2
      go_ret2
      refine ⟨ret_ii (by rw [HN.out]; try omega) (by rw [HX.out]), ?_⟩
      exact below_drewN (hbw.alloc (by omega) _) _
  · have hli := after_is wk d (f + 3) s k1 k2
    have hr : pickR 3 wk d (f + 3) s = d + (wk - (f + d + 3) % 7 + 7) % 7 := by
      unfold pickR; rw [if_neg (by omega), if_pos rfl, show f + 3 + d = f + d + 3 by omega]
    have hq : 0 ≤ (f + d + 3) % 7 ∧ (f + d + 3) % 7 ≤ 6 := by omega
    obtain ⟨q1, q2⟩ := hq
    rw [hr] at hlt hge
    by_cases hl : s < d + (wk - (f + d + 3) % 7 + 7) % 7
    · have HN := Lib.hid (hlt hl).1
      have HX := Lib.hid (hlt hl).2
      clear hlt hge hli hr
      go_enter Tryz.func100, Tryz.ntmps100
      go_wp2_with (first
        | (go_at_call 99; refine (pcheck_any _ _ _ _).mono ?_; rintro e w1 ⟨rfl, hb1⟩; obtain ⟨hc, hfz⟩ := bcell hb1; have hz : w.heap.size < w1.heap.size := (by have := hb1.size; simp at this; omega); have hbw : Below w.heap.size w w1 := ((Below.refl _ _).alloc (Nat.le_refl _) _).trans (hb1.mono (by simp)))
        | (go_at_call 124; refine (S.out _).mono ?_; rintro e w' ⟨rfl, rfl⟩)
        | (go_at_call 125; refine (D.out _).mono ?_; rintro e w' ⟨rfl, rfl⟩))
      go_quiet ((go_at_call 126; exact Calls.quiet_of_same ((find1_any f d w1.heap.size _ (by simp) f1 f2 (by omega) (by omega)).mono fun _ _ h => ⟨h.1, h.2.symm⟩)))
      go_wp2
      go_ret2
      refine ⟨ret_ii (by rw [HN.out]; try omega) (by rw [HX.out]), ?_⟩
      exact below_drewN (hbw.alloc (by omega) _) _
    · have HN := Lib.hid (hge hl).1
      have HX := Lib.hid (hge hl).2
      clear hlt hge hli hr
      go_enter Tryz.func100, Tryz.ntmps100
      go_wp2_with (first
        | (go_at_call 99; refine (pcheck_any _ _ _ _).mono ?_; rintro e w1 ⟨rfl, hb1⟩; obtain ⟨hc, hfz⟩ := bcell hb1; have hz : w.heap.size < w1.heap.size := (by have := hb1.size; simp at this; omega); have hbw : Below w.heap.size w w1 := ((Below.refl _ _).alloc (Nat.le_refl _) _).trans (hb1.mono (by simp)))
        | (go_at_call 124; refine (S.out _).mono ?_; rintro e w' ⟨rfl, rfl⟩)
        | (go_at_call 125; refine (D.out _).mono ?_; rintro e w' ⟨rfl, rfl⟩))
      go_quiet ((go_at_call 126; exact Calls.quiet_of_same ((find1_any f d w1.heap.size _ (by simp) f1 f2 (by omega) (by omega)).mono fun _ _ h => ⟨h.1, h.2.symm⟩)))
      go_wp2
      go_ret2
      refine ⟨ret_ii (by rw [HN.out]; try omega) (by rw [HX.out]), ?_⟩
      exact below_drewN (hbw.alloc (by omega) _) _

theorem find_any (y m k wk d : Int) (w : World) :
    Calls Tryz.prog 100 #[.int .i64 y, .int .i64 m, .agg #[.int .i64 k, .int .i64 wk, .int .i64 d]] w fun e w' =>
      e = .returned (.tuple #[.int .i64 (findN y m k wk d), .int .i64 (findE y m k wk d)]) ∧ Below w.heap.size w w' := by
  by_cases h : onE k wk d = 0
  · cases hy : isYM y m
    · rw [show findN y m k wk d = 0 by simp [findN, h, hy], show findE y m k wk d = 3 by simp [findE, h, hy]]
      exact find_none y m k wk d w h hy
    · exact find_ok y m k wk d w h hy
  · rw [show findN y m k wk d = 0 by simp [findN, h], show findE y m k wk d = onE k wk d by simp [findE, h]]
    exact find_bad y m k wk d w h
end Go.Proofs.YtbbbeldbhlehnaaGreat
end
/-! The walks of the reference's CheckOn and FindOf. -/
section
set_option linter.unusedVariables false
set_option linter.unusedSimpArgs false
namespace Go.Proofs.YtbbbeldbhlehnaaGreat
open Go.RowKit Gno

theorem onE_no1 {k w d : Int} (h : ¬ (k = 1 ∨ k = 2 ∨ k = 3)) : onE k w d = 8 := by unfold onE; rw [if_neg (by omega), if_neg (by omega), if_neg (by omega)]

set_option maxHeartbeats 1000000 in
theorem checkOn_any (k wk d : Int) (w : World) :
    Calls Tryz.prog 114 #[.agg #[.int .i64 k, .int .i64 wk, .int .i64 d]] w fun e w' => e = .returned (.int .i64 (onE k wk d)) ∧ Below w.heap.size w w' := by
  by_cases hk : k = 1 ∨ k = 2 ∨ k = 3
  · have hw : withinB k 1 3 = true := (withinB_iff _ _ _).2 (by omega)
    have hcases : ∀ b : Bool, b = true ∨ b = false := by decide
    rcases hcases (withinB wk 0 6) with h6 | h6
    · have h6' := (withinB_iff _ _ _).1 h6
      rcases hcases (withinB d 1 31) with h31 | h31
      · have h31' := (withinB_iff _ _ _).1 h31
        rcases hk with rfl | rfl | rfl
        all_goals
          go_enter Tryz.func114, Tryz.ntmps114
          go_wp2_with (go_at_call 43; refine (within_any _ _ _ _).mono ?_; rintro e w' ⟨rfl, rfl⟩)
          all_goals
            go_ret
            exact ⟨ret_int (by unfold onE; simp_all; try omega), (Below.refl _ _).alloc (Nat.le_refl _) _⟩
      · have h31' := (withinB_no _ _ _).1 h31
        rcases hk with rfl | rfl | rfl
        all_goals
          go_enter Tryz.func114, Tryz.ntmps114
          go_wp2_with (go_at_call 43; refine (within_any _ _ _ _).mono ?_; rintro e w' ⟨rfl, rfl⟩)
          all_goals
            go_ret
            exact ⟨ret_int (by unfold onE; simp_all; try omega), (Below.refl _ _).alloc (Nat.le_refl _) _⟩
    · have h6' := (withinB_no _ _ _).1 h6
      rcases hk with rfl | rfl | rfl
      all_goals
        go_enter Tryz.func114, Tryz.ntmps114
        go_wp2_with (go_at_call 43; refine (within_any _ _ _ _).mono ?_; rintro e w' ⟨rfl, rfl⟩)
        all_goals
          go_ret
          exact ⟨ret_int (by unfold onE; simp; try omega), (Below.refl _ _).alloc (Nat.le_refl _) _⟩
  · have hw : withinB k 1 3 = false := (withinB_no _ _ _).2 (by omega)
    have HE := Lib.hid (onE_no1 (w := wk) (d := d) hk)
    clear hk
    go_enter Tryz.func114, Tryz.ntmps114
    go_wp2_with (go_at_call 43; refine (within_any _ _ _ _).mono ?_; rintro e w' ⟨rfl, rfl⟩)
    go_ret
    exact ⟨ret_int (by rw [HE.out]), (Below.refl _ _).alloc (Nat.le_refl _) _⟩
end Go.Proofs.YtbbbeldbhlehnaaGreat
end
/-! The walk of the reference's FindOf. -/
section
set_option linter.unusedVariables false
set_option linter.unusedSimpArgs false
namespace Go.Proofs.YtbbbeldbhlehnaaGreat
open Go.RowKit Gno

/-- a box of three cells, seen in a later world. -/
theorem box_cells {w w3 : World} {a b c : Value} {T : TypeId} (hb : Below (w.heap.size + 1) (w.alloc (.cells #[a, b, c] T)) w3) :
    w3.cell? ⟨w.heap.size, 0, none⟩ = some a ∧ w3.cell? ⟨w.heap.size, 1, none⟩ = some b ∧ w3.cell? ⟨w.heap.size, 2, none⟩ = some c := by
  refine ⟨(hb.cell (p := ⟨w.heap.size, 0, none⟩) (by simp)).trans (by simp), (hb.cell (p := ⟨w.heap.size, 1, none⟩) (by simp)).trans (by simp), (hb.cell (p := ⟨w.heap.size, 2, none⟩) (by simp)).trans (by simp)⟩
theorem box_le {w w3 : World} {o : Obj} (hb : Below (w.heap.size + 1) (w.alloc o) w3) : w.heap.size + 1 ≤ w3.heap.size := by
  have := hb.size
  simp at this
  omega
theorem box_below {w w3 : World} {o : Obj} (hb : Below (w.heap.size + 1) (w.alloc o) w3) : Below w.heap.size w w3 :=
  ((Below.refl _ _).alloc (Nat.le_refl _) _).trans (hb.mono (by omega))

theorem findOf_bad (y m k wk d : Int) (w : World) (h : onE k wk d ≠ 0) :
    Calls Tryz.prog 115 #[.int .i64 y, .int .i64 m, .agg #[.int .i64 k, .int .i64 wk, .int .i64 d]] w fun e w' => e = .returned (.tuple #[.int .i64 0, .int .i64 (onE k wk d)]) ∧ Below w.heap.size w w' := by
  have hb : (onE k wk d != 0) = true := by simpa using h
  clear h
  go_enter Tryz.func115, Tryz.ntmps115
  go_wp2_with (go_at_call 114; refine (checkOn_any _ _ _ _).mono ?_; rintro e w1 ⟨rfl, hb1⟩)
  go_ret2
  exact ⟨rfl, ((Below.refl _ _).alloc (Nat.le_refl _) _).trans (hb1.mono (by simp))⟩

theorem findOf_none (y m k wk d : Int) (w : World) (h : onE k wk d = 0) (hy : isYM y m = false) :
    Calls Tryz.prog 115 #[.int .i64 y, .int .i64 m, .agg #[.int .i64 k, .int .i64 wk, .int .i64 d]] w fun e w' => e = .returned (.tuple #[.int .i64 0, .int .i64 3]) ∧ Below w.heap.size w w' := by
  have hb : (onE k wk d != 0) = false := by simpa using h
  clear h
  have hcases : ∀ b : Bool, b = true ∨ b = false := by decide
  rcases hcases (isYear y) with h1 | h1
  · have h2 : isMonth m = false := by simpa [isYM, h1] using hy
    clear hy
    go_enter Tryz.func115, Tryz.ntmps115
    go_wp2_with (first
      | (go_at_call 114; refine (checkOn_any _ _ _ _).mono ?_; rintro e w1 ⟨rfl, hb1⟩)
      | (go_at_call 112; refine (isYearR_any _ _).mono ?_; rintro e w' ⟨rfl, rfl⟩)
      | (go_at_call 113; refine (isMonthR_any _ _).mono ?_; rintro e w' ⟨rfl, rfl⟩))
    go_ret2
    exact ⟨rfl, ((Below.refl _ _).alloc (Nat.le_refl _) _).trans (hb1.mono (by simp))⟩
  · clear hy
    go_enter Tryz.func115, Tryz.ntmps115
    go_wp2_with (first
      | (go_at_call 114; refine (checkOn_any _ _ _ _).mono ?_; rintro e w1 ⟨rfl, hb1⟩)
      | (go_at_call 112; refine (isYearR_any _ _).mono ?_; rintro e w' ⟨rfl, rfl⟩)
      | (go_at_call 113; refine (isMonthR_any _ _).mono ?_; rintro e w' ⟨rfl, rfl⟩))
    go_ret2
    exact ⟨rfl, ((Below.refl _ _).alloc (Nat.le_refl _) _).trans (hb1.mono (by simp))⟩

/-- the days of a right month. -/
theorem daysOf_at (y m s : Int) (hs : s = size y m) (hy : isYM y m = true) (j : Int) (h1 : 1 ≤ j) (h2 : j ≤ s) (w : World) :
    Calls Tryz.prog 132 #[.int .i64 y, .int .i64 m, .int .i64 j] w fun e w' => e = .returned (.tuple #[.int .i64 (num y m j), .int .i64 0]) ∧ Below w.heap.size w w' := by
  have h := (isYM_iff y m).1 hy
  exact daysOf_yes y m j w ((isDate_iff _ _ _).2 ⟨h.1, h.2, h1, by omega⟩)
theorem num_in (y m s : Int) (hs : s = size y m) (hy : isYM y m = true) (j : Int) (h1 : 1 ≤ j) (h2 : j ≤ s) : 0 ≤ num y m j ∧ num y m j ≤ 21914 := by
  have h := (isYM_iff y m).1 hy
  exact (isDay_iff _).1 (day_of y m j ((isDate_iff _ _ _).2 ⟨h.1, h.2, h1, by omega⟩)).1

set_option maxRecDepth 100000 in
set_option maxHeartbeats 2000000 in
theorem findOf_1 (y m d : Int) (w : World) (h : onE 1 0 d = 0) (hy : isYM y m = true) (d1 : 1 ≤ d) (d2 : d ≤ 31) :
    Calls Tryz.prog 115 #[.int .i64 y, .int .i64 m, .agg #[.int .i64 1, .int .i64 0, .int .i64 d]] w fun e w' =>
      e = .returned (.tuple #[.int .i64 (findN y m 1 0 d), .int .i64 (findE y m 1 0 d)]) ∧ Below w.heap.size w w' := by
  have hb : (onE 1 0 d != 0) = false := by simpa using h
  obtain ⟨⟨y1, y2⟩, m1, m2⟩ := (isYM_iff y m).1 hy
  have hyb := (isYear_iff y).2 ⟨y1, y2⟩
  have hmb := (isMonth_iff m).2 ⟨m1, m2⟩
  have hs := size_bd y m m1 m2
  have hlt := find_lt y m 1 0 d h hy
  have hge := find_ge y m 1 0 d h hy
  have MD := Lib.hid (fun w => monthDays_any y m w y1 y2 m1 m2)
  obtain ⟨c, hce⟩ : ∃ c, c = pick1 y m := ⟨_, rfl⟩
  obtain ⟨s, hse⟩ : ∃ s, s = size y m := ⟨_, rfl⟩
  have DO := Lib.hid (daysOf_at y m s hse hy)
  have NI := Lib.hid (num_in y m s hse hy)
  have WP : Hid (∀ j, (num y m j + 4) % 7 = (c + j) % 7) := Lib.hid (fun j => by rw [hce]; exact weekOf_pick y m j)
  have hR : findR y m 1 0 d = pickR 1 0 d c s := by unfold findR; rw [hce, hse]
  rw [← hse] at MD hs
  rw [hR, ← hse] at hlt hge
  have HLT := Lib.hid hlt
  have HGE := Lib.hid hge
  obtain ⟨s1, s2⟩ := hs
  clear h hy hce hse hR y1 y2 m1 m2 hlt hge
  go_enter Tryz.func115, Tryz.ntmps115
  go_wp2_with (first
    | (go_at_call 114; refine (checkOn_any _ _ _ _).mono ?_; rintro e w1 ⟨rfl, hb1⟩)
    | (go_at_call 112; refine (isYearR_any _ _).mono ?_; rintro e w' ⟨rfl, rfl⟩)
    | (go_at_call 113; refine (isMonthR_any _ _).mono ?_; rintro e w' ⟨rfl, rfl⟩))
  simp only [World.size_alloc] at hb1
  go_loopw [9, 10] (fun u v wr => ∃ f j : Int, 1 ≤ j ∧ j ≤ s + 1 ∧ v = .int .i64 j ∧ u = .int .i64 f ∧ acc1 d j f ∧ Below (w.heap.size + 1) (w.alloc (.cells #[.int .i64 1, .int .i64 0, .int .i64 d] 97)) wr) (fun _ v _ => (s + 1 - intOf v).toNat)
  case atStart => exact ⟨0, 1, by omega, by omega, rfl, rfl, (by unfold acc1; rw [if_neg (by omega)]), hb1⟩
  case round =>
    obtain ⟨f, j, j1, j2, rfl, rfl, hacc, hb2⟩ := hrel
    have HA := Lib.hid hacc
    clear hacc hb1
    by_cases hj : j ≤ s
    · by_cases he : j = d
      · have eb : (j == d) = true := by simp [he]
        have HE := Lib.hid he
        clear he
        go_wp2_with (first
          | (go_at_call 131; (with_reducible refine (MD.out _).mono ?_); rintro e w2 ⟨rfl, hb3⟩; have hb4 := hb2.trans (hb3.mono (box_le hb2)); clear hb2 hb3)
          | (go_at_call 132; (with_reducible refine (DO.out j j1 hj _).mono ?_); rintro e w3 ⟨rfl, hb5⟩; have hb6 := hb4.trans (hb5.mono (box_le hb4)); clear hb4 hb5; obtain ⟨c0, c1, c2⟩ := box_cells hb6))
        go_roundw
        case rel => exact ⟨j, j + 1, by omega, by omega, rfl, rfl, acc1_set HE.out, hb6⟩
        case measure => simp [intOf]; omega
      · have eb : (j == d) = false := by simpa using he
        go_wp2_with (first
          | (go_at_call 131; (with_reducible refine (MD.out _).mono ?_); rintro e w2 ⟨rfl, hb3⟩; have hb4 := hb2.trans (hb3.mono (box_le hb2)); clear hb2 hb3)
          | (go_at_call 132; (with_reducible refine (DO.out j j1 hj _).mono ?_); rintro e w3 ⟨rfl, hb5⟩; have hb6 := hb4.trans (hb5.mono (box_le hb4)); clear hb4 hb5; obtain ⟨c0, c1, c2⟩ := box_cells hb6))
        go_roundw
        case rel => exact ⟨f, j + 1, by omega, by omega, rfl, rfl, acc1_keep HA.out he, hb6⟩
        case measure => simp [intOf]; omega
    · have hje : j = s + 1 := by omega
      have hf := HA.out
      unfold acc1 at hf
      rw [hje] at hf
      by_cases hl : s < d
      · have hf0 : f = 0 := by rw [hf, if_neg (by omega)]
        obtain ⟨e1, e2⟩ := HLT.out (by have := exact_is 0 d c s; omega)
        have E1 := Lib.hid e1
        have E2 := Lib.hid e2
        subst hf0
        clear e1 e2 hje hf
        go_wp2_with (go_at_call 131; (with_reducible refine (MD.out _).mono ?_); rintro e w2 ⟨rfl, hb3⟩; have hb4 := hb2.trans (hb3.mono (box_le hb2)); clear hb2 hb3)
        go_ret2
        exact ⟨ret_ii (by rw [E1.out]) (by rw [E2.out]), box_below hb4⟩
      · skip
        have hf0 : f = d := by rw [hf, if_pos (by omega)]
        obtain ⟨e1, e2⟩ := HGE.out (by have := exact_is 0 d c s; omega)
        rw [exact_is] at e1
        have fb : (f == 0) = false := by simp; omega
        have E1 := Lib.hid e1
        have E2 := Lib.hid e2
        have HF := Lib.hid hf0
        clear hf0
        clear e1 e2 hje hf
        go_wp2_with (go_at_call 131; (with_reducible refine (MD.out _).mono ?_); rintro e w2 ⟨rfl, hb3⟩; have hb4 := hb2.trans (hb3.mono (box_le hb2)); clear hb2 hb3)
        go_ret2
        exact ⟨ret_ii (by rw [E1.out, HF.out]) (by rw [E2.out]), box_below hb4⟩

set_option maxRecDepth 100000 in
set_option maxHeartbeats 2000000 in
theorem findOf_2 (y m wk : Int) (w : World) (h : onE 2 wk 0 = 0) (hy : isYM y m = true) (k1 : 0 ≤ wk) (k2 : wk ≤ 6) :
    Calls Tryz.prog 115 #[.int .i64 y, .int .i64 m, .agg #[.int .i64 2, .int .i64 wk, .int .i64 0]] w fun e w' =>
      e = .returned (.tuple #[.int .i64 (findN y m 2 wk 0), .int .i64 (findE y m 2 wk 0)]) ∧ Below w.heap.size w w' := by
  have hb : (onE 2 wk 0 != 0) = false := by simpa using h
  obtain ⟨⟨y1, y2⟩, m1, m2⟩ := (isYM_iff y m).1 hy
  have hyb := (isYear_iff y).2 ⟨y1, y2⟩
  have hmb := (isMonth_iff m).2 ⟨m1, m2⟩
  have hs := size_bd y m m1 m2
  have hlt := find_lt y m 2 wk 0 h hy
  have hge := find_ge y m 2 wk 0 h hy
  have MD := Lib.hid (fun w => monthDays_any y m w y1 y2 m1 m2)
  obtain ⟨c, hce⟩ : ∃ c, c = pick1 y m := ⟨_, rfl⟩
  obtain ⟨s, hse⟩ : ∃ s, s = size y m := ⟨_, rfl⟩
  have DO := Lib.hid (daysOf_at y m s hse hy)
  have NI := Lib.hid (num_in y m s hse hy)
  have WP : Hid (∀ j, (num y m j + 4) % 7 = (c + j) % 7) := Lib.hid (fun j => by rw [hce]; exact weekOf_pick y m j)
  have hR : findR y m 2 wk 0 = pickR 2 wk 0 c s := by unfold findR; rw [hce, hse]
  rw [← hse] at MD hs
  rw [hR, ← hse] at hlt hge
  have HLT := Lib.hid hlt
  have HGE := Lib.hid hge
  obtain ⟨s1, s2⟩ := hs
  clear h hy hce hse hR y1 y2 m1 m2 hlt hge
  go_enter Tryz.func115, Tryz.ntmps115
  go_wp2_with (first
    | (go_at_call 114; refine (checkOn_any _ _ _ _).mono ?_; rintro e w1 ⟨rfl, hb1⟩)
    | (go_at_call 112; refine (isYearR_any _ _).mono ?_; rintro e w' ⟨rfl, rfl⟩)
    | (go_at_call 113; refine (isMonthR_any _ _).mono ?_; rintro e w' ⟨rfl, rfl⟩))
  simp only [World.size_alloc] at hb1
  go_loopw [9, 10] (fun u v wr => ∃ f j : Int, 1 ≤ j ∧ j ≤ s + 1 ∧ v = .int .i64 j ∧ u = .int .i64 f ∧ acc2 (pickR 2 wk 0 c s) j f ∧ Below (w.heap.size + 1) (w.alloc (.cells #[.int .i64 2, .int .i64 wk, .int .i64 0] 97)) wr) (fun _ v _ => (s + 1 - intOf v).toNat)
  case atStart => exact ⟨0, 1, by omega, by omega, rfl, rfl, ⟨by omega, fun h => absurd h (by have := last_is wk 0 c s k1 k2; omega)⟩, hb1⟩
  case round =>
    obtain ⟨f, j, j1, j2, rfl, rfl, hacc, hb2⟩ := hrel
    have HA := Lib.hid hacc
    clear hacc hb1
    by_cases hj : j ≤ s
    · obtain ⟨n1, n2⟩ := NI.out j j1 hj
      have wp := WP.out j
      by_cases he : (num y m j + 4) % 7 = wk
      · have eb : ((num y m j + 4) % 7 == wk) = true := by simp [he]
        have HE := Lib.hid (show (c + j) % 7 = wk by rw [← wp]; exact he)
        clear he wp
        go_wp2_with (first
          | (go_at_call 131; (with_reducible refine (MD.out _).mono ?_); rintro e w2 ⟨rfl, hb3⟩; have hb4 := hb2.trans (hb3.mono (box_le hb2)); clear hb2 hb3)
          | (go_at_call 132; (with_reducible refine (DO.out j j1 hj _).mono ?_); rintro e w3 ⟨rfl, hb5⟩; have hb6 := hb4.trans (hb5.mono (box_le hb4)); clear hb4 hb5; obtain ⟨c0, c1, c2⟩ := box_cells hb6))
        go_quiet ((go_at_call 133; exact Calls.quiet_of_same ((weekOf_any _ _ n1 n2).mono fun _ _ h => ⟨h.1, h.2.symm⟩)))
        go_wp2
        go_roundw
        case rel => exact ⟨j, j + 1, by omega, by omega, rfl, rfl, acc2_set k1 k2 (by omega) hj HE.out, below_drewN hb6 _⟩
        case measure => simp [intOf]; omega
      · have eb : ((num y m j + 4) % 7 == wk) = false := by simpa using he
        have HE := Lib.hid (show ¬ (c + j) % 7 = wk by rw [← wp]; exact he)
        clear he wp
        go_wp2_with (first
          | (go_at_call 131; (with_reducible refine (MD.out _).mono ?_); rintro e w2 ⟨rfl, hb3⟩; have hb4 := hb2.trans (hb3.mono (box_le hb2)); clear hb2 hb3)
          | (go_at_call 132; (with_reducible refine (DO.out j j1 hj _).mono ?_); rintro e w3 ⟨rfl, hb5⟩; have hb6 := hb4.trans (hb5.mono (box_le hb4)); clear hb4 hb5; obtain ⟨c0, c1, c2⟩ := box_cells hb6))
        go_quiet ((go_at_call 133; exact Calls.quiet_of_same ((weekOf_any _ _ n1 n2).mono fun _ _ h => ⟨h.1, h.2.symm⟩)))
        go_wp2
        go_roundw
        case rel => exact ⟨f, j + 1, by omega, by omega, rfl, rfl, acc2_keep k1 k2 HA.out HE.out, below_drewN hb6 _⟩
        case measure => simp [intOf]; omega
    · have hje : j = s + 1 := by omega
      have hl := last_is wk 0 c s k1 k2
      have hf0 : f = pickR 2 wk 0 c s := HA.out.2 (by omega)
      obtain ⟨e1, e2⟩ := HGE.out (by omega)
      have fb : (f == 0) = false := by simp; omega
      have E1 := Lib.hid e1
      have E2 := Lib.hid e2
      have HF := Lib.hid hf0
      clear hf0
      clear e1 e2 hje hl
      go_wp2_with (go_at_call 131; (with_reducible refine (MD.out _).mono ?_); rintro e w2 ⟨rfl, hb3⟩; have hb4 := hb2.trans (hb3.mono (box_le hb2)); clear hb2 hb3)
      go_ret2
      exact ⟨ret_ii (by rw [E1.out, HF.out]) (by rw [E2.out]), box_below hb4⟩

set_option maxRecDepth 100000 in
set_option maxHeartbeats 2000000 in
theorem findOf_3 (y m wk d : Int) (w : World) (h : onE 3 wk d = 0) (hy : isYM y m = true) (k1 : 0 ≤ wk) (k2 : wk ≤ 6) (d1 : 1 ≤ d) (d2 : d ≤ 31) :
    Calls Tryz.prog 115 #[.int .i64 y, .int .i64 m, .agg #[.int .i64 3, .int .i64 wk, .int .i64 d]] w fun e w' =>
      e = .returned (.tuple #[.int .i64 (findN y m 3 wk d), .int .i64 (findE y m 3 wk d)]) ∧ Below w.heap.size w w' := by
  have hb : (onE 3 wk d != 0) = false := by simpa using h
  obtain ⟨⟨y1, y2⟩, m1, m2⟩ := (isYM_iff y m).1 hy
  have hyb := (isYear_iff y).2 ⟨y1, y2⟩
  have hmb := (isMonth_iff m).2 ⟨m1, m2⟩
  have hs := size_bd y m m1 m2
  have hlt := find_lt y m 3 wk d h hy
  have hge := find_ge y m 3 wk d h hy
  have MD := Lib.hid (fun w => monthDays_any y m w y1 y2 m1 m2)
  obtain ⟨c, hce⟩ : ∃ c, c = pick1 y m := ⟨_, rfl⟩
  obtain ⟨s, hse⟩ : ∃ s, s = size y m := ⟨_, rfl⟩
  have DO := Lib.hid (daysOf_at y m s hse hy)
  have NI := Lib.hid (num_in y m s hse hy)
  have WP : Hid (∀ j, (num y m j + 4) % 7 = (c + j) % 7) := Lib.hid (fun j => by rw [hce]; exact weekOf_pick y m j)
  have hR : findR y m 3 wk d = pickR 3 wk d c s := by unfold findR; rw [hce, hse]
  rw [← hse] at MD hs
  rw [hR, ← hse] at hlt hge
  have HLT := Lib.hid hlt
  have HGE := Lib.hid hge
  obtain ⟨s1, s2⟩ := hs
  clear h hy hce hse hR y1 y2 m1 m2 hlt hge
  go_enter Tryz.func115, Tryz.ntmps115
  go_wp2_with (first
    | (go_at_call 114; refine (checkOn_any _ _ _ _).mono ?_; rintro e w1 ⟨rfl, hb1⟩)
    | (go_at_call 112; refine (isYearR_any _ _).mono ?_; rintro e w' ⟨rfl, rfl⟩)
    | (go_at_call 113; refine (isMonthR_any _ _).mono ?_; rintro e w' ⟨rfl, rfl⟩))
  simp only [World.size_alloc] at hb1
  go_loopw [9, 10] (fun u v wr => ∃ f j : Int, 1 ≤ j ∧ j ≤ s + 1 ∧ v = .int .i64 j ∧ u = .int .i64 f ∧ acc3 (pickR 3 wk d c s) j f ∧ Below (w.heap.size + 1) (w.alloc (.cells #[.int .i64 3, .int .i64 wk, .int .i64 d] 97)) wr) (fun _ v _ => (s + 1 - intOf v).toNat)
  case atStart => exact ⟨0, 1, by omega, by omega, rfl, rfl, (by unfold acc3; rw [if_neg (by have := after_is wk d c s k1 k2; omega)]), hb1⟩
  case round =>
    obtain ⟨f, j, j1, j2, rfl, rfl, hacc, hb2⟩ := hrel
    have HA := Lib.hid hacc
    clear hacc hb1
    by_cases hj : j ≤ s
    · obtain ⟨n1, n2⟩ := NI.out j j1 hj
      have wp := WP.out j
      by_cases he : (num y m j + 4) % 7 = wk
      · have eb : ((num y m j + 4) % 7 == wk) = true := by simp [he]
        have HE := Lib.hid (show (c + j) % 7 = wk by rw [← wp]; exact he)
        clear he wp
        by_cases hd : d ≤ j
        · have db : decide (d ≤ j) = true := by simpa using hd
          by_cases hf : f = 0
          · have fb : (f == 0) = true := by simp [hf]
            have HF := Lib.hid hf
            clear hf
            go_wp2_with (first
              | (go_at_call 131; (with_reducible refine (MD.out _).mono ?_); rintro e w2 ⟨rfl, hb3⟩; have hb4 := hb2.trans (hb3.mono (box_le hb2)); clear hb2 hb3)
              | (go_at_call 132; (with_reducible refine (DO.out j j1 hj _).mono ?_); rintro e w3 ⟨rfl, hb5⟩; have hb6 := hb4.trans (hb5.mono (box_le hb4)); clear hb4 hb5; obtain ⟨c0, c1, c2⟩ := box_cells hb6))
            go_quiet ((go_at_call 133; exact Calls.quiet_of_same ((weekOf_any _ _ n1 n2).mono fun _ _ h => ⟨h.1, h.2.symm⟩)))
            go_wp2
            go_roundw
            case rel => exact ⟨j, j + 1, by omega, by omega, rfl, rfl, acc3_set k1 k2 d1 HA.out HE.out hd HF.out, below_drewN hb6 _⟩
            case measure => simp [intOf]; omega
          · have fb : (f == 0) = false := by simpa using hf
            have HF := Lib.hid (show ¬ ((c + j) % 7 = wk ∧ d ≤ j ∧ f = 0) from fun h => hf h.2.2)
            clear hf
            go_wp2_with (first
              | (go_at_call 131; (with_reducible refine (MD.out _).mono ?_); rintro e w2 ⟨rfl, hb3⟩; have hb4 := hb2.trans (hb3.mono (box_le hb2)); clear hb2 hb3)
              | (go_at_call 132; (with_reducible refine (DO.out j j1 hj _).mono ?_); rintro e w3 ⟨rfl, hb5⟩; have hb6 := hb4.trans (hb5.mono (box_le hb4)); clear hb4 hb5; obtain ⟨c0, c1, c2⟩ := box_cells hb6))
            go_quiet ((go_at_call 133; exact Calls.quiet_of_same ((weekOf_any _ _ n1 n2).mono fun _ _ h => ⟨h.1, h.2.symm⟩)))
            go_wp2
            go_roundw
            case rel => exact ⟨f, j + 1, by omega, by omega, rfl, rfl, acc3_keep k1 k2 HA.out HF.out, below_drewN hb6 _⟩
            case measure => simp [intOf]; omega
        · have db : decide (d ≤ j) = false := by simpa using hd
          have HF := Lib.hid (show ¬ ((c + j) % 7 = wk ∧ d ≤ j ∧ f = 0) from fun h => hd h.2.1)
          go_wp2_with (first
            | (go_at_call 131; (with_reducible refine (MD.out _).mono ?_); rintro e w2 ⟨rfl, hb3⟩; have hb4 := hb2.trans (hb3.mono (box_le hb2)); clear hb2 hb3)
            | (go_at_call 132; (with_reducible refine (DO.out j j1 hj _).mono ?_); rintro e w3 ⟨rfl, hb5⟩; have hb6 := hb4.trans (hb5.mono (box_le hb4)); clear hb4 hb5; obtain ⟨c0, c1, c2⟩ := box_cells hb6))
          go_quiet ((go_at_call 133; exact Calls.quiet_of_same ((weekOf_any _ _ n1 n2).mono fun _ _ h => ⟨h.1, h.2.symm⟩)))
          go_wp2
          go_roundw
          case rel => exact ⟨f, j + 1, by omega, by omega, rfl, rfl, acc3_keep k1 k2 HA.out HF.out, below_drewN hb6 _⟩
          case measure => simp [intOf]; omega
      · have eb : ((num y m j + 4) % 7 == wk) = false := by simpa using he
        have HF := Lib.hid (show ¬ ((c + j) % 7 = wk ∧ d ≤ j ∧ f = 0) from fun h => he (by rw [wp]; exact h.1))
        clear he wp
        go_wp2_with (first
          | (go_at_call 131; (with_reducible refine (MD.out _).mono ?_); rintro e w2 ⟨rfl, hb3⟩; have hb4 := hb2.trans (hb3.mono (box_le hb2)); clear hb2 hb3)
          | (go_at_call 132; (with_reducible refine (DO.out j j1 hj _).mono ?_); rintro e w3 ⟨rfl, hb5⟩; have hb6 := hb4.trans (hb5.mono (box_le hb4)); clear hb4 hb5; obtain ⟨c0, c1, c2⟩ := box_cells hb6))
        go_quiet ((go_at_call 133; exact Calls.quiet_of_same ((weekOf_any _ _ n1 n2).mono fun _ _ h => ⟨h.1, h.2.symm⟩)))
        go_wp2
        go_roundw
        case rel => exact ⟨f, j + 1, by omega, by omega, rfl, rfl, acc3_keep k1 k2 HA.out HF.out, below_drewN hb6 _⟩
        case measure => simp [intOf]; omega
    · have hje : j = s + 1 := by omega
      have hli := after_is wk d c s k1 k2
      have hf := HA.out
      unfold acc3 at hf
      rw [hje] at hf
      by_cases hl : s < pickR 3 wk d c s
      · have hf0 : f = 0 := by rw [hf, if_neg (by omega)]
        obtain ⟨e1, e2⟩ := HLT.out (by omega)
        have E1 := Lib.hid e1
        have E2 := Lib.hid e2
        subst hf0
        clear e1 e2 hje hf hli
        go_wp2_with (go_at_call 131; (with_reducible refine (MD.out _).mono ?_); rintro e w2 ⟨rfl, hb3⟩; have hb4 := hb2.trans (hb3.mono (box_le hb2)); clear hb2 hb3)
        go_ret2
        exact ⟨ret_ii (by rw [E1.out]) (by rw [E2.out]), box_below hb4⟩
      · skip
        have hf0 : f = pickR 3 wk d c s := by rw [hf, if_pos (by omega)]
        obtain ⟨e1, e2⟩ := HGE.out (by omega)
        have fb : (f == 0) = false := by simp; omega
        have E1 := Lib.hid e1
        have E2 := Lib.hid e2
        have HF := Lib.hid hf0
        clear hf0
        clear e1 e2 hje hf hli
        go_wp2_with (go_at_call 131; (with_reducible refine (MD.out _).mono ?_); rintro e w2 ⟨rfl, hb3⟩; have hb4 := hb2.trans (hb3.mono (box_le hb2)); clear hb2 hb3)
        go_ret2
        exact ⟨ret_ii (by rw [E1.out, HF.out]) (by rw [E2.out]), box_below hb4⟩

theorem findOf_any (y m k wk d : Int) (w : World) :
    Calls Tryz.prog 115 #[.int .i64 y, .int .i64 m, .agg #[.int .i64 k, .int .i64 wk, .int .i64 d]] w fun e w' =>
      e = .returned (.tuple #[.int .i64 (findN y m k wk d), .int .i64 (findE y m k wk d)]) ∧ Below w.heap.size w w' := by
  by_cases h : onE k wk d = 0
  · cases hy : isYM y m
    · rw [show findN y m k wk d = 0 by simp [findN, h, hy], show findE y m k wk d = 3 by simp [findE, h, hy]]
      exact findOf_none y m k wk d w h hy
    · rcases onE_ok h with ⟨rfl, rfl, d1, d2⟩ | ⟨rfl, ⟨k1, k2⟩, rfl⟩ | ⟨rfl, ⟨k1, k2⟩, d1, d2⟩
      · exact findOf_1 y m d w h hy d1 d2
      · exact findOf_2 y m wk w h hy k1 k2
      · exact findOf_3 y m wk d w h hy k1 k2 d1 d2
  · rw [show findN y m k wk d = 0 by simp [findN, h], show findE y m k wk d = onE k wk d by simp [findE, h]]
    exact findOf_bad y m k wk d w h
end Go.Proofs.YtbbbeldbhlehnaaGreat
end
