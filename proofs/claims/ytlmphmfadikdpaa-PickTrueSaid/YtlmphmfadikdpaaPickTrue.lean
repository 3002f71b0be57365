/- The walk of PickTrue. -/
import Derived.Test.YtlmphmfadikdpaaPickAgain
set_option linter.unusedVariables false
namespace Gno
theorem found_is {y m k w d : Int} (h : findE y m k w d = 0) : onE k w d = 0 ∧ isYM y m = true ∧ findR y m k w d ≤ size y m ∧ findN y m k w d = findR y m k w d := by
  unfold findE at h
  by_cases ho : onE k w d ≠ 0
  · rw [if_pos ho] at h
    exact absurd h ho
  · rw [if_neg ho] at h
    have ho' : onE k w d = 0 := by omega
    cases hy : isYM y m
    · rw [if_pos hy] at h
      omega
    · rw [if_neg (by rw [hy]; simp)] at h
      by_cases hl : size y m < findR y m k w d
      · rw [if_pos hl] at h
        omega
      · exact ⟨ho', rfl, by omega, (findR_eq ho' hy (by omega)).1⟩
end Gno
namespace Go.Proofs.Ytlmphmfadikdpaa
open Go.RowKit Gno

set_option maxRecDepth 100000 in
set_option maxHeartbeats 4000000 in
theorem pickTrue_no (y m k wk d r : Int) (w : World) (h : findE y m k wk d ≠ 0) :
    Calls Try.prog 8 #[.int .i64 y, .int .i64 m, .agg #[.int .i64 k, .int .i64 wk, .int .i64 d], .int .i64 r] w fun e w' => e = .returned (.bool true) ∧ Below w.heap.size w w' := by
  have FD := Lib.hid (fun w => find_any y m k wk d w)
  have hb : (findE y m k wk d != 0) = true := by simpa using h
  clear h
  go_enter Try.func8, Try.ntmps8
  go_wp2_with (first
    | (go_at_call 24; (with_reducible refine (FD.out _).mono ?_); rintro e w1 ⟨rfl, hb1⟩; simp only [World.size_alloc] at hb1; obtain ⟨c0, c1, c2⟩ := box_cells hb1)
    | (go_at_call 26; refine (pickBegun_any _).mono ?_; rintro e w2 ⟨rfl, hb2⟩; have hb3 := hb1.trans (hb2.mono (box_le hb1)); clear hb1 hb2 c0 c1 c2; obtain ⟨c0, c1, c2⟩ := box_cells hb3))
  go_ret
  exact ⟨rfl, box_below hb3⟩

set_option maxRecDepth 100000 in
set_option maxHeartbeats 4000000 in
theorem pickTrue_1 (y m d r : Int) (hr : (Lit.int .i64 r).wf = true) (w : World) (h : findE y m 1 0 d = 0) :
    Calls Try.prog 8 #[.int .i64 y, .int .i64 m, .agg #[.int .i64 1, .int .i64 0, .int .i64 d], .int .i64 r] w fun e w' => e = .returned (.bool true) ∧ Below w.heap.size w w' := by
  obtain ⟨ho, hy, hle, hN⟩ := found_is h
  have fd := fun w => find_any y m 1 0 d w
  simp only [h, hN] at fd
  have hym := (isYM_iff y m).1 hy
  have hs := size_bd y m hym.2.1 hym.2.2
  obtain ⟨R, hR⟩ : ∃ R, R = findR y m 1 0 d := ⟨_, rfl⟩
  rw [← hR] at fd hle
  have hRd : R = pickR 1 0 d (pick1 y m) (size y m) := hR
  have hd : 1 ≤ d ∧ d ≤ 31 := by rcases onE_ok ho with ⟨_, _, a, b⟩ | ⟨a, _⟩ | ⟨a, _⟩ <;> omega
  rw [exact_is] at hRd
  have hR1 : 1 ≤ R := by omega
  have hRb : (R == d) = true := by simp [hRd]
  have hdt := (isDate_iff y m R).2 ⟨hym.1, hym.2, hR1, hle⟩
  have da := fun w => days_yes y m R w hdt
  have wa := fun w => week_yes (num y m R) w (day_of y m R hdt).1
  have wp := weekOf_pick y m R
  have hcb := chooseN_bd r 31 (by omega)
  have CH := Lib.hid (fun w => choose_any r 31 w hr (by omega) (by omega))
  obtain ⟨u, hu⟩ : ∃ u, u = chooseN r 31 := ⟨_, rfl⟩
  rw [← hu] at hcb CH
  obtain ⟨u1, u2⟩ := hcb
  have FD := Lib.hid fd
  have DA := Lib.hid da
  have WA := Lib.hid wa
  have wq := weekOf_pick y m (1 + u)
  have hcases : ∀ b : Bool, b = true ∨ b = false := by decide
  rcases hcases (isDate y m (1 + u)) with hd2 | hd2
  · have db := fun w => days_yes y m (1 + u) w hd2
    have wb := fun w => week_yes (num y m (1 + u)) w (day_of y m (1 + u) hd2).1
    have hd2' := ((isDate_iff y m (1 + u)).1 hd2).2.2.2
    obtain ⟨v, hv⟩ : ∃ v, v = (num y m (1 + u) + 4) % 7 := ⟨_, rfl⟩
    rw [← hv] at wb wq
    have DB := Lib.hid db
    have WB := Lib.hid wb
    clear db wb hv hd2 hd2' wq hu fd da wa wp hr hdt hRd hR hs hym hN hle hy ho h hcases hd
    go_enter Try.func8, Try.ntmps8
    go_wp2_with (first
      | (go_at_call 24; (with_reducible refine (FD.out _).mono ?_); rintro e w1 ⟨rfl, hb1⟩; simp only [World.size_alloc] at hb1; obtain ⟨c0, c1, c2⟩ := box_cells hb1)
      | (go_at_call 16; (with_reducible refine (DA.out _).mono ?_); rintro e w' ⟨rfl, rfl⟩)
      | (go_at_call 16; (with_reducible refine (DB.out _).mono ?_); rintro e w' ⟨rfl, rfl⟩)
      | (go_at_call 18; (with_reducible refine (WA.out _).mono ?_); rintro e w' ⟨rfl, rfl⟩)
      | (go_at_call 18; (with_reducible refine (WB.out _).mono ?_); rintro e w' ⟨rfl, rfl⟩)
      | (go_at_call 29; (with_reducible refine (CH.out _).mono ?_); rintro e w' ⟨rfl, rfl⟩)
      | (go_at_call 26; refine (pickBegun_any _).mono ?_; rintro e w2 ⟨rfl, hb2⟩; have hb3 := hb1.trans (hb2.mono (box_le hb1)); clear hb1 hb2 c0 c1 c2; obtain ⟨c0, c1, c2⟩ := box_cells hb3))
    go_ret
    exact ⟨rfl, box_below hb3⟩
  · have db := fun w => days_no y m (1 + u) w hd2
    have DB := Lib.hid db
    clear db hd2 wq hu fd da wa wp hr hdt hRd hR hs hym hN hle hy ho h hcases hd
    go_enter Try.func8, Try.ntmps8
    go_wp2_with (first
      | (go_at_call 24; (with_reducible refine (FD.out _).mono ?_); rintro e w1 ⟨rfl, hb1⟩; simp only [World.size_alloc] at hb1; obtain ⟨c0, c1, c2⟩ := box_cells hb1)
      | (go_at_call 16; (with_reducible refine (DA.out _).mono ?_); rintro e w' ⟨rfl, rfl⟩)
      | (go_at_call 16; (with_reducible refine (DB.out _).mono ?_); rintro e w' ⟨rfl, rfl⟩)
      | (go_at_call 18; (with_reducible refine (WA.out _).mono ?_); rintro e w' ⟨rfl, rfl⟩)
      | (go_at_call 29; (with_reducible refine (CH.out _).mono ?_); rintro e w' ⟨rfl, rfl⟩)
      | (go_at_call 26; refine (pickBegun_any _).mono ?_; rintro e w2 ⟨rfl, hb2⟩; have hb3 := hb1.trans (hb2.mono (box_le hb1)); clear hb1 hb2 c0 c1 c2; obtain ⟨c0, c1, c2⟩ := box_cells hb3))
    go_ret
    exact ⟨rfl, box_below hb3⟩

set_option maxRecDepth 100000 in
set_option maxHeartbeats 4000000 in
theorem pickTrue_2 (y m wk r : Int) (hr : (Lit.int .i64 r).wf = true) (w : World) (h : findE y m 2 wk 0 = 0) :
    Calls Try.prog 8 #[.int .i64 y, .int .i64 m, .agg #[.int .i64 2, .int .i64 wk, .int .i64 0], .int .i64 r] w fun e w' => e = .returned (.bool true) ∧ Below w.heap.size w w' := by
  obtain ⟨ho, hy, hle, hN⟩ := found_is h
  have fd := fun w => find_any y m 2 wk 0 w
  simp only [h, hN] at fd
  have hym := (isYM_iff y m).1 hy
  have hs := size_bd y m hym.2.1 hym.2.2
  obtain ⟨R, hR⟩ : ∃ R, R = findR y m 2 wk 0 := ⟨_, rfl⟩
  rw [← hR] at fd hle
  have hRd : R = pickR 2 wk 0 (pick1 y m) (size y m) := hR
  have hk : 0 ≤ wk ∧ wk ≤ 6 := by rcases onE_ok ho with ⟨a, _⟩ | ⟨_, a, _⟩ | ⟨a, _⟩ <;> omega
  obtain ⟨l1, l2, l3, l4⟩ := last_is wk 0 (pick1 y m) (size y m) hk.1 hk.2
  rw [← hRd] at l1 l2 l3 l4
  have hR1 : 1 ≤ R := by omega
  have hdt := (isDate_iff y m R).2 ⟨hym.1, hym.2, hR1, hle⟩
  have da := fun w => days_yes y m R w hdt
  have wa := fun w => week_yes (num y m R) w (day_of y m R hdt).1
  have wp := weekOf_pick y m R
  rw [l3] at wp
  simp only [wp] at wa
  have hcb := chooseN_bd r 31 (by omega)
  have CH := Lib.hid (fun w => choose_any r 31 w hr (by omega) (by omega))
  obtain ⟨u, hu⟩ : ∃ u, u = chooseN r 31 := ⟨_, rfl⟩
  rw [← hu] at hcb CH
  obtain ⟨u1, u2⟩ := hcb
  have FD := Lib.hid fd
  have DA := Lib.hid da
  have WA := Lib.hid wa
  have wq := weekOf_pick y m (1 + u)
  have hcases : ∀ b : Bool, b = true ∨ b = false := by decide
  rcases hcases (isDate y m (1 + u)) with hd2 | hd2
  · have db := fun w => days_yes y m (1 + u) w hd2
    have wb := fun w => week_yes (num y m (1 + u)) w (day_of y m (1 + u) hd2).1
    have hd2' := ((isDate_iff y m (1 + u)).1 hd2).2.2.2
    obtain ⟨v, hv⟩ : ∃ v, v = (num y m (1 + u) + 4) % 7 := ⟨_, rfl⟩
    rw [← hv] at wb wq
    have DB := Lib.hid db
    have WB := Lib.hid wb
    by_cases hvw : v = wk
    · have hvb : (v != wk) = false := by simp [hvw]
      have hir : 1 + u ≤ R := by
        rcases Int.lt_or_le R (1 + u) with hlt | hlt
        · exact absurd (by rw [← wq]; exact hvw) (l4 (1 + u) hlt hd2')
        · exact hlt
      have hib : decide (1 + u ≤ R) = true := by simpa using hir
      clear hvw db wb hv hd2 hd2' wq hu fd da wa wp hr hdt hRd hR hs hym hN hle hy ho h hcases hk l1 l2 l3 l4
      go_enter Try.func8, Try.ntmps8
      go_wp2_with (first
        | (go_at_call 24; (with_reducible refine (FD.out _).mono ?_); rintro e w1 ⟨rfl, hb1⟩; simp only [World.size_alloc] at hb1; obtain ⟨c0, c1, c2⟩ := box_cells hb1)
        | (go_at_call 16; (with_reducible refine (DA.out _).mono ?_); rintro e w' ⟨rfl, rfl⟩)
        | (go_at_call 16; (with_reducible refine (DB.out _).mono ?_); rintro e w' ⟨rfl, rfl⟩)
        | (go_at_call 18; (with_reducible refine (WA.out _).mono ?_); rintro e w' ⟨rfl, rfl⟩)
        | (go_at_call 18; (with_reducible refine (WB.out _).mono ?_); rintro e w' ⟨rfl, rfl⟩)
        | (go_at_call 29; (with_reducible refine (CH.out _).mono ?_); rintro e w' ⟨rfl, rfl⟩)
        | (go_at_call 26; refine (pickBegun_any _).mono ?_; rintro e w2 ⟨rfl, hb2⟩; have hb3 := hb1.trans (hb2.mono (box_le hb1)); clear hb1 hb2 c0 c1 c2; obtain ⟨c0, c1, c2⟩ := box_cells hb3))
      go_ret
      exact ⟨rfl, box_below hb3⟩
    · have hvb : (v != wk) = true := by simpa using hvw
      clear hvw db wb hv hd2 hd2' wq hu fd da wa wp hr hdt hRd hR hs hym hN hle hy ho h hcases hk l1 l2 l3 l4
      go_enter Try.func8, Try.ntmps8
      go_wp2_with (first
        | (go_at_call 24; (with_reducible refine (FD.out _).mono ?_); rintro e w1 ⟨rfl, hb1⟩; simp only [World.size_alloc] at hb1; obtain ⟨c0, c1, c2⟩ := box_cells hb1)
        | (go_at_call 16; (with_reducible refine (DA.out _).mono ?_); rintro e w' ⟨rfl, rfl⟩)
        | (go_at_call 16; (with_reducible refine (DB.out _).mono ?_); rintro e w' ⟨rfl, rfl⟩)
        | (go_at_call 18; (with_reducible refine (WA.out _).mono ?_); rintro e w' ⟨rfl, rfl⟩)
        | (go_at_call 18; (with_reducible refine (WB.out _).mono ?_); rintro e w' ⟨rfl, rfl⟩)
        | (go_at_call 29; (with_reducible refine (CH.out _).mono ?_); rintro e w' ⟨rfl, rfl⟩)
        | (go_at_call 26; refine (pickBegun_any _).mono ?_; rintro e w2 ⟨rfl, hb2⟩; have hb3 := hb1.trans (hb2.mono (box_le hb1)); clear hb1 hb2 c0 c1 c2; obtain ⟨c0, c1, c2⟩ := box_cells hb3))
      go_ret
      exact ⟨rfl, box_below hb3⟩
  · have db := fun w => days_no y m (1 + u) w hd2
    have DB := Lib.hid db
    clear db hd2 wq hu fd da wa wp hr hdt hRd hR hs hym hN hle hy ho h hcases hk l1 l2 l3 l4
    go_enter Try.func8, Try.ntmps8
    go_wp2_with (first
      | (go_at_call 24; (with_reducible refine (FD.out _).mono ?_); rintro e w1 ⟨rfl, hb1⟩; simp only [World.size_alloc] at hb1; obtain ⟨c0, c1, c2⟩ := box_cells hb1)
      | (go_at_call 16; (with_reducible refine (DA.out _).mono ?_); rintro e w' ⟨rfl, rfl⟩)
      | (go_at_call 16; (with_reducible refine (DB.out _).mono ?_); rintro e w' ⟨rfl, rfl⟩)
      | (go_at_call 18; (with_reducible refine (WA.out _).mono ?_); rintro e w' ⟨rfl, rfl⟩)
      | (go_at_call 29; (with_reducible refine (CH.out _).mono ?_); rintro e w' ⟨rfl, rfl⟩)
      | (go_at_call 26; refine (pickBegun_any _).mono ?_; rintro e w2 ⟨rfl, hb2⟩; have hb3 := hb1.trans (hb2.mono (box_le hb1)); clear hb1 hb2 c0 c1 c2; obtain ⟨c0, c1, c2⟩ := box_cells hb3))
    go_ret
    exact ⟨rfl, box_below hb3⟩

set_option maxRecDepth 100000 in
set_option maxHeartbeats 4000000 in
theorem pickTrue_3 (y m wk d r : Int) (hr : (Lit.int .i64 r).wf = true) (w : World) (h : findE y m 3 wk d = 0) :
    Calls Try.prog 8 #[.int .i64 y, .int .i64 m, .agg #[.int .i64 3, .int .i64 wk, .int .i64 d], .int .i64 r] w fun e w' => e = .returned (.bool true) ∧ Below w.heap.size w w' := by
  obtain ⟨ho, hy, hle, hN⟩ := found_is h
  have fd := fun w => find_any y m 3 wk d w
  simp only [h, hN] at fd
  have hym := (isYM_iff y m).1 hy
  have hs := size_bd y m hym.2.1 hym.2.2
  obtain ⟨R, hR⟩ : ∃ R, R = findR y m 3 wk d := ⟨_, rfl⟩
  rw [← hR] at fd hle
  have hRd : R = pickR 3 wk d (pick1 y m) (size y m) := hR
  have hk : (0 ≤ wk ∧ wk ≤ 6) ∧ 1 ≤ d := by rcases onE_ok ho with ⟨a, _⟩ | ⟨a, _⟩ | ⟨_, a, b, _⟩ <;> omega
  obtain ⟨l1, l2, l3, l4⟩ := after_is wk d (pick1 y m) (size y m) hk.1.1 hk.1.2
  rw [← hRd] at l1 l2 l3 l4
  have hR1 : 1 ≤ R := by omega
  have hdt := (isDate_iff y m R).2 ⟨hym.1, hym.2, hR1, hle⟩
  have da := fun w => days_yes y m R w hdt
  have wa := fun w => week_yes (num y m R) w (day_of y m R hdt).1
  have wp := weekOf_pick y m R
  rw [l3] at wp
  simp only [wp] at wa
  have hcb := chooseN_bd r 31 (by omega)
  have CH := Lib.hid (fun w => choose_any r 31 w hr (by omega) (by omega))
  obtain ⟨u, hu⟩ : ∃ u, u = chooseN r 31 := ⟨_, rfl⟩
  rw [← hu] at hcb CH
  obtain ⟨u1, u2⟩ := hcb
  have FD := Lib.hid fd
  have DA := Lib.hid da
  have WA := Lib.hid wa
  have wq := weekOf_pick y m (1 + u)
  have hcases : ∀ b : Bool, b = true ∨ b = false := by decide
  rcases hcases (isDate y m (1 + u)) with hd2 | hd2
  · have db := fun w => days_yes y m (1 + u) w hd2
    have wb := fun w => week_yes (num y m (1 + u)) w (day_of y m (1 + u) hd2).1
    have hd2' := ((isDate_iff y m (1 + u)).1 hd2).2.2.2
    obtain ⟨v, hv⟩ : ∃ v, v = (num y m (1 + u) + 4) % 7 := ⟨_, rfl⟩
    rw [← hv] at wb wq
    have DB := Lib.hid db
    have WB := Lib.hid wb
    by_cases hvw : v = wk
    · have hvb : (v != wk) = false := by simp [hvw]
      by_cases hid : 1 + u < d
      · have hib : decide (1 + u < d) = true := by simpa using hid
        clear hvw db wb hv hd2 hd2' wq hu fd da wa wp hr hdt hRd hR hs hym hN hle hy ho h hcases hk l1 l2 l3 l4
        go_enter Try.func8, Try.ntmps8
        go_wp2_with (first
          | (go_at_call 24; (with_reducible refine (FD.out _).mono ?_); rintro e w1 ⟨rfl, hb1⟩; simp only [World.size_alloc] at hb1; obtain ⟨c0, c1, c2⟩ := box_cells hb1)
          | (go_at_call 16; (with_reducible refine (DA.out _).mono ?_); rintro e w' ⟨rfl, rfl⟩)
          | (go_at_call 16; (with_reducible refine (DB.out _).mono ?_); rintro e w' ⟨rfl, rfl⟩)
          | (go_at_call 18; (with_reducible refine (WA.out _).mono ?_); rintro e w' ⟨rfl, rfl⟩)
          | (go_at_call 18; (with_reducible refine (WB.out _).mono ?_); rintro e w' ⟨rfl, rfl⟩)
          | (go_at_call 29; (with_reducible refine (CH.out _).mono ?_); rintro e w' ⟨rfl, rfl⟩)
          | (go_at_call 26; refine (pickBegun_any _).mono ?_; rintro e w2 ⟨rfl, hb2⟩; have hb3 := hb1.trans (hb2.mono (box_le hb1)); clear hb1 hb2 c0 c1 c2; obtain ⟨c0, c1, c2⟩ := box_cells hb3))
        go_ret
        exact ⟨rfl, box_below hb3⟩
      · have hir : R ≤ 1 + u := by
          rcases Int.lt_or_le (1 + u) R with hlt | hlt
          · exact absurd (by rw [← wq]; exact hvw) (l4 (1 + u) (by omega) hlt)
          · exact hlt
        have hib : decide (R ≤ 1 + u) = true := by simpa using hir
        clear hvw db wb hv hd2 hd2' wq hu fd da wa wp hr hdt hRd hR hs hym hN hle hy ho h hcases hk l1 l2 l3 l4
        go_enter Try.func8, Try.ntmps8
        go_wp2_with (first
          | (go_at_call 24; (with_reducible refine (FD.out _).mono ?_); rintro e w1 ⟨rfl, hb1⟩; simp only [World.size_alloc] at hb1; obtain ⟨c0, c1, c2⟩ := box_cells hb1)
          | (go_at_call 16; (with_reducible refine (DA.out _).mono ?_); rintro e w' ⟨rfl, rfl⟩)
          | (go_at_call 16; (with_reducible refine (DB.out _).mono ?_); rintro e w' ⟨rfl, rfl⟩)
          | (go_at_call 18; (with_reducible refine (WA.out _).mono ?_); rintro e w' ⟨rfl, rfl⟩)
          | (go_at_call 18; (with_reducible refine (WB.out _).mono ?_); rintro e w' ⟨rfl, rfl⟩)
          | (go_at_call 29; (with_reducible refine (CH.out _).mono ?_); rintro e w' ⟨rfl, rfl⟩)
          | (go_at_call 26; refine (pickBegun_any _).mono ?_; rintro e w2 ⟨rfl, hb2⟩; have hb3 := hb1.trans (hb2.mono (box_le hb1)); clear hb1 hb2 c0 c1 c2; obtain ⟨c0, c1, c2⟩ := box_cells hb3))
        go_ret
        exact ⟨rfl, box_below hb3⟩
    · have hvb : (v != wk) = true := by simpa using hvw
      clear hvw db wb hv hd2 hd2' wq hu fd da wa wp hr hdt hRd hR hs hym hN hle hy ho h hcases hk l1 l2 l3 l4
      go_enter Try.func8, Try.ntmps8
      go_wp2_with (first
        | (go_at_call 24; (with_reducible refine (FD.out _).mono ?_); rintro e w1 ⟨rfl, hb1⟩; simp only [World.size_alloc] at hb1; obtain ⟨c0, c1, c2⟩ := box_cells hb1)
        | (go_at_call 16; (with_reducible refine (DA.out _).mono ?_); rintro e w' ⟨rfl, rfl⟩)
        | (go_at_call 16; (with_reducible refine (DB.out _).mono ?_); rintro e w' ⟨rfl, rfl⟩)
        | (go_at_call 18; (with_reducible refine (WA.out _).mono ?_); rintro e w' ⟨rfl, rfl⟩)
        | (go_at_call 18; (with_reducible refine (WB.out _).mono ?_); rintro e w' ⟨rfl, rfl⟩)
        | (go_at_call 29; (with_reducible refine (CH.out _).mono ?_); rintro e w' ⟨rfl, rfl⟩)
        | (go_at_call 26; refine (pickBegun_any _).mono ?_; rintro e w2 ⟨rfl, hb2⟩; have hb3 := hb1.trans (hb2.mono (box_le hb1)); clear hb1 hb2 c0 c1 c2; obtain ⟨c0, c1, c2⟩ := box_cells hb3))
      go_ret
      exact ⟨rfl, box_below hb3⟩
  · have db := fun w => days_no y m (1 + u) w hd2
    have DB := Lib.hid db
    clear db hd2 wq hu fd da wa wp hr hdt hRd hR hs hym hN hle hy ho h hcases hk l1 l2 l3 l4
    go_enter Try.func8, Try.ntmps8
    go_wp2_with (first
      | (go_at_call 24; (with_reducible refine (FD.out _).mono ?_); rintro e w1 ⟨rfl, hb1⟩; simp only [World.size_alloc] at hb1; obtain ⟨c0, c1, c2⟩ := box_cells hb1)
      | (go_at_call 16; (with_reducible refine (DA.out _).mono ?_); rintro e w' ⟨rfl, rfl⟩)
      | (go_at_call 16; (with_reducible refine (DB.out _).mono ?_); rintro e w' ⟨rfl, rfl⟩)
      | (go_at_call 18; (with_reducible refine (WA.out _).mono ?_); rintro e w' ⟨rfl, rfl⟩)
      | (go_at_call 29; (with_reducible refine (CH.out _).mono ?_); rintro e w' ⟨rfl, rfl⟩)
      | (go_at_call 26; refine (pickBegun_any _).mono ?_; rintro e w2 ⟨rfl, hb2⟩; have hb3 := hb1.trans (hb2.mono (box_le hb1)); clear hb1 hb2 c0 c1 c2; obtain ⟨c0, c1, c2⟩ := box_cells hb3))
    go_ret
    exact ⟨rfl, box_below hb3⟩

theorem pickTrue_walk (y m k wk d r : Int) (hr : (Lit.int .i64 r).wf = true) (w : World) :
    Calls Try.prog 8 #[.int .i64 y, .int .i64 m, .agg #[.int .i64 k, .int .i64 wk, .int .i64 d], .int .i64 r] w fun e w' => e = .returned (.bool true) ∧ Below w.heap.size w w' := by
  by_cases h : findE y m k wk d = 0
  · rcases onE_ok (found_is h).1 with ⟨rfl, rfl, _⟩ | ⟨rfl, _, rfl⟩ | ⟨rfl, _⟩
    · exact pickTrue_1 y m d r hr w h
    · exact pickTrue_2 y m wk r hr w h
    · exact pickTrue_3 y m wk d r hr w h
  · exact pickTrue_no y m k wk d r w h
end Go.Proofs.Ytlmphmfadikdpaa
