/- Parts of a proof, laid together. -/
import Derived.Deep.QuietTactic
import Derived.BigQuiet
import Derived.Test.YtlngalmdidaahaaDoorMOffBareRow3
import Derived.Test.YtlngalmdidaahaaDoorMOffBareRow0
set_option linter.unusedSimpArgs false
set_option linter.unusedVariables false
/-! The walks of package pick. -/
section
set_option linter.unusedVariables false
namespace Go.Proofs.YtlngalmdidaahaaDoor
open Go.RowKit Gno

theorem pcheck_any (k wk d : Int) (w : World) :
    Calls Tryd.prog 44 #[.agg #[.int .i64 k, .int .i64 wk, .int .i64 d]] w fun e w' => e = .returned (.int .i64 (onE k wk d)) ∧ Below w.heap.size w w' := by
  by_cases h1 : k = 1
  · subst h1
    by_cases h2 : wk = 0
    · subst h2
      go_enter Tryd.func44, Tryd.ntmps44
      go_wp2
      all_goals
        go_ret
        exact ⟨ret_int (by unfold onE; simp; try omega), (Below.refl _ _).alloc (Nat.le_refl _) _⟩
    · have hb : (wk != 0) = true := by simpa using h2
      go_enter Tryd.func44, Tryd.ntmps44
      go_wp2
      all_goals
        go_ret
        exact ⟨ret_int (by unfold onE; simp; try omega), (Below.refl _ _).alloc (Nat.le_refl _) _⟩
  · by_cases h2 : k = 2
    · subst h2
      go_enter Tryd.func44, Tryd.ntmps44
      go_wp2
      all_goals
        go_ret
        exact ⟨ret_int (by unfold onE; simp; try omega), (Below.refl _ _).alloc (Nat.le_refl _) _⟩
    · by_cases h3 : k = 3
      · subst h3
        go_enter Tryd.func44, Tryd.ntmps44
        go_wp2
        all_goals
          go_ret
          exact ⟨ret_int (by unfold onE; simp; try omega), (Below.refl _ _).alloc (Nat.le_refl _) _⟩
      · have b1 : (k == 1) = false := by simpa using h1
        have b2 : (k == 2) = false := by simpa using h2
        have b3 : (k == 3) = false := by simpa using h3
        go_enter Tryd.func44, Tryd.ntmps44
        go_wp2
        all_goals
          go_ret
          exact ⟨ret_int (by unfold onE; rw [if_neg h1, if_neg h2, if_neg h3]), (Below.refl _ _).alloc (Nat.le_refl _) _⟩

theorem find1_any (c x : Int) (B : Nat) (w : World) (hc : w.cell? ⟨B, 0, none⟩ = some (.int .i64 c)) (c1 : 0 ≤ c) (c2 : c ≤ 21914) (x1 : 0 ≤ x) (x2 : x ≤ 100) :
    Calls Tryd.prog 58 #[.int .i64 x, .pointer (some ⟨B, 0, none⟩)] w fun e w' => e = .returned (.int .i64 ((c + x + 3) % 7)) ∧ w = w' := by
  go_enter Tryd.func58, Tryd.ntmps58
  go_wp2
  go_ret
  exact ⟨rfl, rfl⟩
end Go.Proofs.YtlngalmdidaahaaDoor
end
/-! The walk of pick.Find. -/
section
set_option linter.unusedVariables false
namespace Go.Proofs.YtlngalmdidaahaaDoor
open Go.RowKit Gno

theorem bcell {W w1 : World} (hb : Below W.heap.size W w1) : (∀ b o, b < W.heap.size → w1.cell? ⟨b, o, none⟩ = W.cell? ⟨b, o, none⟩) ∧ (∀ b o, b < W.heap.size → w1.frozen? ⟨b, o, none⟩ = W.frozen? ⟨b, o, none⟩) :=
  ⟨fun b o h => hb.cell (p := ⟨b, o, none⟩) h, fun b o h => hb.frozen (p := ⟨b, o, none⟩) h⟩

theorem ret_ii {k k' : IntKind} {a b a' b' : Int} (h : a = b) (h' : a' = b') : Ending.returned (.tuple #[.int k a, .int k' a']) = .returned (.tuple #[.int k b, .int k' b']) := by rw [h, h']

theorem below_drewN {B : Nat} {a w : World} (h : Below B a w) (n : Nat) : Below B a (w.drewN n) := ⟨h.os, h.tape, h.output, h.size, h.block⟩

theorem find_bad (y m k wk d : Int) (w : World) (h : onE k wk d ≠ 0) :
    Calls Tryd.prog 45 #[.int .i64 y, .int .i64 m, .agg #[.int .i64 k, .int .i64 wk, .int .i64 d]] w fun e w' => e = .returned (.tuple #[.int .i64 0, .int .i64 (onE k wk d)]) ∧ Below w.heap.size w w' := by
  have hb : (onE k wk d != 0) = true := by simpa using h
  clear h
  go_enter Tryd.func45, Tryd.ntmps45
  go_wp2_with (go_at_call 44; refine (pcheck_any _ _ _ _).mono ?_; rintro e w1 ⟨rfl, hb1⟩)
  go_ret2
  exact ⟨rfl, ((Below.refl _ _).alloc (Nat.le_refl _) _).trans (hb1.mono (by simp))⟩

theorem isYM_iff (y m : Int) : isYM y m = true ↔ (1970 ≤ y ∧ y ≤ 2029) ∧ (1 ≤ m ∧ m ≤ 12) := by simp [isYM, isYear, isMonth]

theorem find_none (y m k wk d : Int) (w : World) (h : onE k wk d = 0) (hy : isYM y m = false) :
    Calls Tryd.prog 45 #[.int .i64 y, .int .i64 m, .agg #[.int .i64 k, .int .i64 wk, .int .i64 d]] w fun e w' => e = .returned (.tuple #[.int .i64 0, .int .i64 3]) ∧ Below w.heap.size w w' := by
  have hb : (onE k wk d != 0) = false := by simpa using h
  have hn : ¬ (1970 ≤ y ∧ y ≤ 2029 ∧ 1 ≤ m ∧ m ≤ 12) := fun x => by
    rw [(isYM_iff y m).2 ⟨⟨x.1, x.2.1⟩, x.2.2.1, x.2.2.2⟩] at hy; cases hy
  have S := Lib.hid (fun w => size_no y m w hn)
  clear h hy hn
  go_enter Tryd.func45, Tryd.ntmps45
  go_wp2_with (first
    | (go_at_call 44; refine (pcheck_any _ _ _ _).mono ?_; rintro e w1 ⟨rfl, hb1⟩)
    | (go_at_call 56; refine (S.out _).mono ?_; rintro e w' ⟨rfl, rfl⟩))
  go_ret2
  exact ⟨rfl, ((Below.refl _ _).alloc (Nat.le_refl _) _).trans (hb1.mono (by simp))⟩

/-- the two answers, where the On and the month are right. -/
theorem find_lt (y m k wk d : Int) (h : onE k wk d = 0) (hy : isYM y m = true) (hl : size y m < findR y m k wk d) : findN y m k wk d = 0 ∧ findE y m k wk d = 4 := by
  unfold findN findE
  simp [h, hy, hl]
theorem find_ge (y m k wk d : Int) (h : onE k wk d = 0) (hy : isYM y m = true) (hl : ¬ size y m < findR y m k wk d) : findN y m k wk d = findR y m k wk d ∧ findE y m k wk d = 0 := by
  unfold findN findE
  simp [h, hy, hl]

set_option maxHeartbeats 1000000 in
theorem find_ok (y m k wk d : Int) (w : World) (h : onE k wk d = 0) (hy : isYM y m = true) :
    Calls Tryd.prog 45 #[.int .i64 y, .int .i64 m, .agg #[.int .i64 k, .int .i64 wk, .int .i64 d]] w fun e w' =>
      e = .returned (.tuple #[.int .i64 (findN y m k wk d), .int .i64 (findE y m k wk d)]) ∧ Below w.heap.size w w' := by
  have hb : (onE k wk d != 0) = false := by simpa using h
  obtain ⟨⟨y1, y2⟩, m1, m2⟩ := (isYM_iff y m).1 hy
  have hs := size_bd y m m1 m2
  have hd := (isDate_iff y m 1).2 ⟨⟨y1, y2⟩, ⟨m1, m2⟩, by omega, by omega⟩
  have hf := (isDay_iff _).1 (day_of y m 1 hd).1
  have S := Lib.hid (fun w => size_yes y m w y1 y2 m1 m2)
  have D := Lib.hid (fun w => days_yes y m 1 w hd)
  have hlt := find_lt y m k wk d h hy
  have hge := find_ge y m k wk d h hy
  obtain ⟨f, hfe⟩ : ∃ f, f = num y m 1 := ⟨_, rfl⟩
  obtain ⟨s, hse⟩ : ∃ s, s = size y m := ⟨_, rfl⟩
  have hR : findR y m k wk d = pickR k wk d (f + 3) s := by unfold findR pick1; rw [hfe, hse]
  rw [← hfe] at D hf
  rw [← hse] at S hs
  rw [hR, ← hse] at hlt hge
  have HC := onE_ok h
  have hsb : (s == 0) = false := by simp; omega
  obtain ⟨f1, f2⟩ := hf
  obtain ⟨s1, s2⟩ := hs
  clear h hy hd hfe hse hR y1 y2 m1 m2
  rcases HC with ⟨rfl, rfl, d1, d2⟩ | ⟨rfl, ⟨k1, k2⟩, rfl⟩ | ⟨rfl, ⟨k1, k2⟩, d1, d2⟩
  · rw [exact_is] at hlt hge
    by_cases hl : s < d
    · have HN := Lib.hid (hlt hl).1
      have HX := Lib.hid (hlt hl).2
      clear hlt hge
      go_enter Tryd.func45, Tryd.ntmps45
      go_wp2_with (first
        | (go_at_call 44; refine (pcheck_any _ _ _ _).mono ?_; rintro e w1 ⟨rfl, hb1⟩; obtain ⟨hc, hfz⟩ := bcell hb1; have hz : w.heap.size < w1.heap.size := (by have := hb1.size; simp at this; omega); have hbw : Below w.heap.size w w1 := ((Below.refl _ _).alloc (Nat.le_refl _) _).trans (hb1.mono (by simp)))
        | (go_at_call 56; refine (S.out _).mono ?_; rintro e w' ⟨rfl, rfl⟩)
        | (go_at_call 57; refine (D.out _).mono ?_; rintro e w' ⟨rfl, rfl⟩))
      go_ret2
      refine ⟨ret_ii (by rw [HN.out]) (by rw [HX.out]), ?_⟩
      go_grown
    · have HN := Lib.hid (hge hl).1
      have HX := Lib.hid (hge hl).2
      clear hlt hge
      go_enter Tryd.func45, Tryd.ntmps45
      go_wp2_with (first
        | (go_at_call 44; refine (pcheck_any _ _ _ _).mono ?_; rintro e w1 ⟨rfl, hb1⟩; obtain ⟨hc, hfz⟩ := bcell hb1; have hz : w.heap.size < w1.heap.size := (by have := hb1.size; simp at this; omega); have hbw : Below w.heap.size w w1 := ((Below.refl _ _).alloc (Nat.le_refl _) _).trans (hb1.mono (by simp)))
        | (go_at_call 56; refine (S.out _).mono ?_; rintro e w' ⟨rfl, rfl⟩)
        | (go_at_call 57; refine (D.out _).mono ?_; rintro e w' ⟨rfl, rfl⟩))
      go_ret2
      refine ⟨ret_ii (by rw [HN.out]) (by rw [HX.out]), ?_⟩
      go_grown
  · have hli := last_is wk 0 (f + 3) s k1 k2
    have hr : pickR 2 wk 0 (f + 3) s = s - ((f + s + 3) % 7 - wk + 7) % 7 := by
      unfold pickR; rw [if_pos rfl, show f + 3 + s = f + s + 3 by omega]
    have hl : ¬ s < pickR 2 wk 0 (f + 3) s := by omega
    have HN := Lib.hid (hge hl).1
    have HX := Lib.hid (hge hl).2
    rw [hr] at HN
    have hq : 0 ≤ (f + s + 3) % 7 ∧ (f + s + 3) % 7 ≤ 6 := by omega
    obtain ⟨q1, q2⟩ := hq
    have hq3 : ¬ s < s - ((f + s + 3) % 7 - wk + 7) % 7 := by omega
    clear hlt hge hli hr hl
    · go_enter Tryd.func45, Tryd.ntmps45
      go_wp2_with (first
        | (go_at_call 44; refine (pcheck_any _ _ _ _).mono ?_; rintro e w1 ⟨rfl, hb1⟩; obtain ⟨hc, hfz⟩ := bcell hb1; have hz : w.heap.size < w1.heap.size := (by have := hb1.size; simp at this; omega); have hbw : Below w.heap.size w w1 := ((Below.refl _ _).alloc (Nat.le_refl _) _).trans (hb1.mono (by simp)))
        | (go_at_call 56; refine (S.out _).mono ?_; rintro e w' ⟨rfl, rfl⟩)
        | (go_at_call 57; refine (D.out _).mono ?_; rintro e w' ⟨rfl, rfl⟩))
      go_quiet ((go_at_call 58; exact Calls.quiet_of_same ((find1_any f s w1.heap.size _ (by simp) f1 f2 (by omega) (by omega)).mono fun _ _ h => ⟨h.1, h.2.symm⟩)))
      go_wp2
      go_ret2
      refine ⟨ret_ii (by rw [HN.out]; try omega) (by rw [HX.out]), ?_⟩
      exact below_drewN (hbw.alloc (by omega) _) _
  · have hli := after_is wk d (f + 3) s k1 k2
    have hr : pickR 3 wk d (f + 3) s = d + (wk - (f + d + 3) % 7 + 7) % 7 := by
      unfold pickR; rw [if_neg (by omega), if_pos rfl, show f + 3 + d = f + d + 3 by omega]
    have hq : 0 ≤ (f + d + 3) % 7 ∧ (f + d + 3) % 7 ≤ 6 := by omega
    obtain ⟨q1, q2⟩ := hq
    rw [hr] at hlt hge
    by_cases hl : s < d + (wk - (f + d + 3) % 7 + 7) % 7
    · have HN := Lib.hid (hlt hl).1
      have HX := Lib.hid (hlt hl).2
      clear hlt hge hli hr
      go_enter Tryd.func45, Tryd.ntmps45
      go_wp2_with (first
        | (go_at_call 44; refine (pcheck_any _ _ _ _).mono ?_; rintro e w1 ⟨rfl, hb1⟩; obtain ⟨hc, hfz⟩ := bcell hb1; have hz : w.heap.size < w1.heap.size := (by have := hb1.size; simp at this; omega); have hbw : Below w.heap.size w w1 := ((Below.refl _ _).alloc (Nat.le_refl _) _).trans (hb1.mono (by simp)))
        | (go_at_call 56; refine (S.out _).mono ?_; rintro e w' ⟨rfl, rfl⟩)
        | (go_at_call 57; refine (D.out _).mono ?_; rintro e w' ⟨rfl, rfl⟩))
      go_quiet ((go_at_call 58; exact Calls.quiet_of_same ((find1_any f d w1.heap.size _ (by simp) f1 f2 (by omega) (by omega)).mono fun _ _ h => ⟨h.1, h.2.symm⟩)))
      go_wp2
      go_ret2
      refine ⟨ret_ii (by rw [HN.out]; try omega) (by rw [HX.out]), ?_⟩
      exact below_drewN (hbw.alloc (by omega) _) _
    · have HN := Lib.hid (hge hl).1
      have HX := Lib.hid (hge hl).2
      clear hlt hge hli hr
      go_enter Tryd.func45, Tryd.ntmps45
      go_wp2_with (first
        | (go_at_call 44; refine (pcheck_any _ _ _ _).mono ?_; rintro e w1 ⟨rfl, hb1⟩; obtain ⟨hc, hfz⟩ := bcell hb1; have hz : w.heap.size < w1.heap.size := (by have := hb1.size; simp at this; omega); have hbw : Below w.heap.size w w1 := ((Below.refl _ _).alloc (Nat.le_refl _) _).trans (hb1.mono (by simp)))
        | (go_at_call 56; refine (S.out _).mono ?_; rintro e w' ⟨rfl, rfl⟩)
        | (go_at_call 57; refine (D.out _).mono ?_; rintro e w' ⟨rfl, rfl⟩))
      go_quiet ((go_at_call 58; exact Calls.quiet_of_same ((find1_any f d w1.heap.size _ (by simp) f1 f2 (by omega) (by omega)).mono fun _ _ h => ⟨h.1, h.2.symm⟩)))
      go_wp2
      go_ret2
      refine ⟨ret_ii (by rw [HN.out]; try omega) (by rw [HX.out]), ?_⟩
      exact below_drewN (hbw.alloc (by omega) _) _

theorem find_any (y m k wk d : Int) (w : World) :
    Calls Tryd.prog 45 #[.int .i64 y, .int .i64 m, .agg #[.int .i64 k, .int .i64 wk, .int .i64 d]] w fun e w' =>
      e = .returned (.tuple #[.int .i64 (findN y m k wk d), .int .i64 (findE y m k wk d)]) ∧ Below w.heap.size w w' := by
  by_cases h : onE k wk d = 0
  · cases hy : isYM y m
    · rw [show findN y m k wk d = 0 by simp [findN, h, hy], show findE y m k wk d = 3 by simp [findE, h, hy]]
      exact find_none y m k wk d w h hy
    · exact find_ok y m k wk d w h hy
  · rw [show findN y m k wk d = 0 by simp [findN, h], show findE y m k wk d = onE k wk d by simp [findE, h]]
    exact find_bad y m k wk d w h
end Go.Proofs.YtlngalmdidaahaaDoor
end
/-! The walks of the reference's CheckOn and FindOf. -/
section
set_option linter.unusedVariables false
namespace Go.Proofs.YtlngalmdidaahaaDoor
open Go.RowKit Gno

theorem onE_no1 {k w d : Int} (h : ¬ (k = 1 ∨ k = 2 ∨ k = 3)) : onE k w d = 8 := by unfold onE; rw [if_neg (by omega), if_neg (by omega), if_neg (by omega)]

end Go.Proofs.YtlngalmdidaahaaDoor
end
/-! The walk of the reference's FindOf. -/
section
set_option linter.unusedVariables false
namespace Go.Proofs.YtlngalmdidaahaaDoor
open Go.RowKit Gno

/-- a box of three cells, seen in a later world. -/
theorem box_cells {w w3 : World} {a b c : Value} {T : TypeId} (hb : Below (w.heap.size + 1) (w.alloc (.cells #[a, b, c] T)) w3) :
    w3.cell? ⟨w.heap.size, 0, none⟩ = some a ∧ w3.cell? ⟨w.heap.size, 1, none⟩ = some b ∧ w3.cell? ⟨w.heap.size, 2, none⟩ = some c := by
  refine ⟨(hb.cell (p := ⟨w.heap.size, 0, none⟩) (by simp)).trans (by simp), (hb.cell (p := ⟨w.heap.size, 1, none⟩) (by simp)).trans (by simp), (hb.cell (p := ⟨w.heap.size, 2, none⟩) (by simp)).trans (by simp)⟩
theorem box_le {w w3 : World} {o : Obj} (hb : Below (w.heap.size + 1) (w.alloc o) w3) : w.heap.size + 1 ≤ w3.heap.size := by
  have := hb.size
  simp at this
  omega
theorem box_below {w w3 : World} {o : Obj} (hb : Below (w.heap.size + 1) (w.alloc o) w3) : Below w.heap.size w w3 :=
  ((Below.refl _ _).alloc (Nat.le_refl _) _).trans (hb.mono (by omega))

theorem num_in (y m s : Int) (hs : s = size y m) (hy : isYM y m = true) (j : Int) (h1 : 1 ≤ j) (h2 : j ≤ s) : 0 ≤ num y m j ∧ num y m j ≤ 21914 := by
  have h := (isYM_iff y m).1 hy
  exact (isDay_iff _).1 (day_of y m j ((isDate_iff _ _ _).2 ⟨h.1, h.2, h1, by omega⟩)).1

end Go.Proofs.YtlngalmdidaahaaDoor
end
