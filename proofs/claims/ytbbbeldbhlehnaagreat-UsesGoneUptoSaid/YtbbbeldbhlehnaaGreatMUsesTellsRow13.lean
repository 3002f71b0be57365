/- Parts of a proof, laid together. -/
import Derived.Test.YtbbbeldbhlehnaaGreatMUsesTellsRow9
import Derived.Test.YtbbbeldbhlehnaaGreatMUsesTellsRow1
import Derived.Test.YtbbbeldbhlehnaaGreatMUsesTellsRow10
set_option linter.unusedSimpArgs false
set_option linter.unusedVariables false
/-! The walks of rules.Check and of the reference's CheckRule. -/
section
set_option linter.unusedVariables false
set_option linter.unusedSimpArgs false
namespace Go.Proofs.YtbbbeldbhlehnaaGreat
open Go.RowKit Gno

/-- a box of nine cells, seen in a later world. -/
theorem box9 {w w3 : World} {c0 c1 c2 c3 c4 c5 c6 c7 c8 : Value} {T : TypeId} (hb : Below (w.heap.size + 1) (w.alloc (.cells #[c0, c1, c2, c3, c4, c5, c6, c7, c8] T)) w3) :
    w3.cell? ⟨w.heap.size, 0, none⟩ = some c0 ∧ w3.cell? ⟨w.heap.size, 1, none⟩ = some c1 ∧ w3.cell? ⟨w.heap.size, 2, none⟩ = some c2 ∧ w3.cell? ⟨w.heap.size, 3, none⟩ = some c3 ∧ w3.cell? ⟨w.heap.size, 4, none⟩ = some c4 ∧
    w3.cell? ⟨w.heap.size, 5, none⟩ = some c5 ∧ w3.cell? ⟨w.heap.size, 6, none⟩ = some c6 ∧ w3.cell? ⟨w.heap.size, 7, none⟩ = some c7 ∧ w3.cell? ⟨w.heap.size, 8, none⟩ = some c8 := by
  refine ⟨?_, ?_, ?_, ?_, ?_, ?_, ?_, ?_, ?_⟩ <;> exact (hb.cell (by simp)).trans (by simp)

set_option maxRecDepth 100000 in
set_option maxHeartbeats 4000000 in
theorem rcheck_any (fy ty mo k wk d a sv : Int) (le : ByteArray) (w : World) (hle : le.size ≤ maxLen) :
    Calls Tryz.prog 72 #[.agg #[.int .i64 fy, .int .i64 ty, .int .i64 mo, .int .i64 k, .int .i64 wk, .int .i64 d, .int .i64 a, .int .i64 sv, .string le]] w fun e w' => e = .returned (.int .i64 (ruleE fy ty mo k wk d a sv le)) ∧ Below w.heap.size w w' := by
  have hle' : le.size ≤ 9223372036854775807 := hle
  have hcases : ∀ b : Bool, b = true ∨ b = false := by decide
  rcases hcases (ruleBasic fy ty mo a sv) with hB | hB
  · obtain ⟨b1, b2, b3, ⟨b4, b5⟩, ⟨b6, b7⟩, b8, b9⟩ := (ruleBasic_iff _ _ _ _ _).1 hB
    by_cases ho : onE k wk d = 0
    · have hob : (onE k wk d != 0) = false := by simpa using ho
      rcases hcases (letOk le) with hL | hL
      · have hL2 : le.size ≤ 12 ∧ allLet le = true := by simpa [letOk] using hL
        obtain ⟨l1, l2⟩ := hL2
        have RY := Lib.hid (fun y h1 h2 h3 => ruleE_year (fy := fy) (ty := ty) (mo := mo) (k := k) (wk := wk) (d := d) (a := a) (sv := sv) (le := le) hB ho hL (y := y) h1 h2 h3)
        have RO := Lib.hid (ruleE_ok (fy := fy) (ty := ty) (mo := mo) (k := k) (wk := wk) (d := d) (a := a) (sv := sv) (le := le) hB ho hL)
        have hYT : Hid (yearsTo fy fy mo k wk d) := yearsTo_start
        clear hB ho hL
        go_enter Tryz.func72, Tryz.ntmps72
        go_wp2_with (first
          | (go_at_call 99; refine (pcheck_any _ _ _ _).mono ?_; rintro e w1 ⟨rfl, hb1⟩; simp only [World.size_alloc] at hb1; obtain ⟨c0, c1, c2, c3, c4, c5, c6, c7, c8⟩ := box9 hb1)
          | (go_at_call 51; refine (letters_any _ _).mono ?_; rintro e w2 ⟨rfl, hb2⟩; have hb3 := hb1.trans (hb2.mono (box_le hb1)); clear hb1 hb2 c0 c1 c2 c3 c4 c5 c6 c7 c8; obtain ⟨c0, c1, c2, c3, c4, c5, c6, c7, c8⟩ := box9 hb3))
        go_loopw [4] (fun v wr => ∃ y : Int, fy ≤ y ∧ y ≤ ty + 1 ∧ v = .int .i64 y ∧ yearsTo fy y mo k wk d ∧ Below (w.heap.size + 1) (w.alloc (.cells #[.int .i64 fy, .int .i64 ty, .int .i64 mo, .int .i64 k, .int .i64 wk, .int .i64 d, .int .i64 a, .int .i64 sv, .string le] 99)) wr) (fun v _ => (ty + 1 - intOf v).toNat)
        case atStart => exact ⟨fy, by omega, by omega, rfl, hYT.out, hb3⟩
        case round =>
          obtain ⟨y, y1, y2, rfl, hyt, hbr⟩ := hrel
          have HY := Lib.hid hyt
          clear hyt hb3 hYT c0 c1 c2 c3 c4 c5 c6 c7 c8
          obtain ⟨c0, c1, c2, c3, c4, c5, c6, c7, c8⟩ := box9 hbr
          by_cases hy : y ≤ ty
          · by_cases hf : findE y mo k wk d = 0
            · have hfb : (findE y mo k wk d != 0) = false := by simpa using hf
              have HN := Lib.hid (yearsTo_step HY.out hf)
              clear hf
              go_wp2_with (go_at_call 100; refine (find_any _ _ _ _ _ _).mono ?_; rintro e w4 ⟨rfl, hb4⟩; have hb5 := hbr.trans (hb4.mono (box_le hbr)); clear hb4 hbr)
              go_roundw
              case rel => exact ⟨y + 1, by omega, by omega, rfl, HN.out, hb5⟩
              case measure => simp [intOf]; omega
            · have hfb : (findE y mo k wk d != 0) = true := by simpa using hf
              have HN := Lib.hid (RY.out y y1 hy hf)
              clear hf
              go_wp2_with (go_at_call 100; refine (find_any _ _ _ _ _ _).mono ?_; rintro e w4 ⟨rfl, hb4⟩; have hb5 := hbr.trans (hb4.mono (box_le hbr)); clear hb4 hbr)
              go_ret
              exact ⟨ret_int HN.out.symm, box_below hb5⟩
          · have HN := Lib.hid (RO.out (yearsTo_end HY.out (by omega)))
            go_wp2
            go_ret
            exact ⟨ret_int HN.out.symm, box_below hbr⟩
      · have HE := Lib.hid (ruleE_let (mo := mo) hB ho hL)
        by_cases l1 : le.size ≤ 12
        · have l2 : allLet le = false := by simpa [letOk, l1] using hL
          clear hB ho hL
          go_enter Tryz.func72, Tryz.ntmps72
          go_wp2_with (first
            | (go_at_call 99; refine (pcheck_any _ _ _ _).mono ?_; rintro e w1 ⟨rfl, hb1⟩; simp only [World.size_alloc] at hb1; obtain ⟨c0, c1, c2, c3, c4, c5, c6, c7, c8⟩ := box9 hb1)
            | (go_at_call 51; refine (letters_any _ _).mono ?_; rintro e w2 ⟨rfl, hb2⟩; have hb3 := hb1.trans (hb2.mono (box_le hb1)); clear hb1 hb2 c0 c1 c2 c3 c4 c5 c6 c7 c8; obtain ⟨c0, c1, c2, c3, c4, c5, c6, c7, c8⟩ := box9 hb3))
          go_ret
          exact ⟨ret_int HE.out.symm, box_below hb3⟩
        · clear hB ho hL
          go_enter Tryz.func72, Tryz.ntmps72
          go_wp2_with (first
            | (go_at_call 99; refine (pcheck_any _ _ _ _).mono ?_; rintro e w1 ⟨rfl, hb1⟩; simp only [World.size_alloc] at hb1; obtain ⟨c0, c1, c2, c3, c4, c5, c6, c7, c8⟩ := box9 hb1))
          go_ret
          exact ⟨ret_int HE.out.symm, box_below hb1⟩
    · have hob : (onE k wk d != 0) = true := by simpa using ho
      have HE := Lib.hid (ruleE_on (le := le) (mo := mo) hB ho)
      clear hB ho
      go_enter Tryz.func72, Tryz.ntmps72
      go_wp2_with (first
        | (go_at_call 99; refine (pcheck_any _ _ _ _).mono ?_; rintro e w1 ⟨rfl, hb1⟩; simp only [World.size_alloc] at hb1; obtain ⟨c0, c1, c2, c3, c4, c5, c6, c7, c8⟩ := box9 hb1))
      go_ret
      exact ⟨ret_int HE.out.symm, box_below hb1⟩
  · have HE := Lib.hid (ruleE_basic (k := k) (wk := wk) (d := d) (le := le) hB)
    have hB' : ¬ (1970 ≤ fy ∧ fy ≤ ty ∧ ty ≤ 2029 ∧ (1 ≤ mo ∧ mo ≤ 12) ∧ (0 ≤ a ∧ a ≤ 86400) ∧ (0 ≤ sv ∧ sv ≤ 7200)) := fun x => by
      rw [(ruleBasic_iff _ _ _ _ _).2 x] at hB; cases hB
    clear hB
    by_cases q0 : fy < 1970
    · clear hB'
      go_enter Tryz.func72, Tryz.ntmps72
      go_wp2
      go_ret
      exact ⟨ret_int HE.out.symm, (Below.refl _ _).alloc (Nat.le_refl _) _⟩
    · skip
      by_cases q1 : ty < fy
      · clear hB'
        go_enter Tryz.func72, Tryz.ntmps72
        go_wp2
        go_ret
        exact ⟨ret_int HE.out.symm, (Below.refl _ _).alloc (Nat.le_refl _) _⟩
      · skip
        by_cases q2 : 2029 < ty
        · clear hB'
          go_enter Tryz.func72, Tryz.ntmps72
          go_wp2
          go_ret
          exact ⟨ret_int HE.out.symm, (Below.refl _ _).alloc (Nat.le_refl _) _⟩
        · skip
          by_cases q3 : mo < 1
          · clear hB'
            go_enter Tryz.func72, Tryz.ntmps72
            go_wp2
            go_ret
            exact ⟨ret_int HE.out.symm, (Below.refl _ _).alloc (Nat.le_refl _) _⟩
          · skip
            by_cases q4 : 12 < mo
            · clear hB'
              go_enter Tryz.func72, Tryz.ntmps72
              go_wp2
              go_ret
              exact ⟨ret_int HE.out.symm, (Below.refl _ _).alloc (Nat.le_refl _) _⟩
            · skip
              by_cases q5 : a < 0
              · clear hB'
                go_enter Tryz.func72, Tryz.ntmps72
                go_wp2
                go_ret
                exact ⟨ret_int HE.out.symm, (Below.refl _ _).alloc (Nat.le_refl _) _⟩
              · skip
                by_cases q6 : 86400 < a
                · clear hB'
                  go_enter Tryz.func72, Tryz.ntmps72
                  go_wp2
                  go_ret
                  exact ⟨ret_int HE.out.symm, (Below.refl _ _).alloc (Nat.le_refl _) _⟩
                · skip
                  by_cases q7 : sv < 0
                  · clear hB'
                    go_enter Tryz.func72, Tryz.ntmps72
                    go_wp2
                    go_ret
                    exact ⟨ret_int HE.out.symm, (Below.refl _ _).alloc (Nat.le_refl _) _⟩
                  · skip
                    have q9 : 7200 < sv := by omega
                    clear hB'
                    go_enter Tryz.func72, Tryz.ntmps72
                    go_wp2
                    go_ret
                    exact ⟨ret_int HE.out.symm, (Below.refl _ _).alloc (Nat.le_refl _) _⟩
end Go.Proofs.YtbbbeldbhlehnaaGreat
end
/-! The walk of the reference's CheckRule. -/
section
set_option linter.unusedVariables false
set_option linter.unusedSimpArgs false
namespace Go.Proofs.YtbbbeldbhlehnaaGreat
open Go.RowKit Gno

set_option maxRecDepth 100000 in
set_option maxHeartbeats 4000000 in
theorem checkRule_any (fy ty mo k wk d a sv : Int) (le : ByteArray) (w : World) (hle : le.size ≤ maxLen) :
    Calls Tryz.prog 81 #[.agg #[.int .i64 fy, .int .i64 ty, .int .i64 mo, .int .i64 k, .int .i64 wk, .int .i64 d, .int .i64 a, .int .i64 sv, .string le]] w fun e w' => e = .returned (.int .i64 (ruleE fy ty mo k wk d a sv le)) ∧ Below w.heap.size w w' := by
  have hle' : le.size ≤ 9223372036854775807 := hle
  have hcases : ∀ b : Bool, b = true ∨ b = false := by decide
  rcases hcases (ruleBasic fy ty mo a sv) with hB | hB
  · obtain ⟨b1, b2, b3, ⟨b4, b5⟩, ⟨b6, b7⟩, b8, b9⟩ := (ruleBasic_iff _ _ _ _ _).1 hB
    have g1 : isYear fy = true := (isYear_iff _).2 ⟨by omega, by omega⟩
    have g2 : isYear ty = true := (isYear_iff _).2 ⟨by omega, by omega⟩
    have g3 : isMonth mo = true := (isMonth_iff _).2 ⟨b4, b5⟩
    have g4 : withinB a 0 86400 = true := (withinB_iff _ _ _).2 ⟨b6, b7⟩
    have g5 : withinB sv 0 7200 = true := (withinB_iff _ _ _).2 ⟨b8, b9⟩
    by_cases ho : onE k wk d = 0
    · have hob : (onE k wk d != 0) = false := by simpa using ho
      rcases hcases (letOk le) with hL | hL
      · have hL2 : le.size ≤ 12 ∧ allLet le = true := by simpa [letOk] using hL
        obtain ⟨l1, l2⟩ := hL2
        have RY := Lib.hid (fun y h1 h2 h3 => ruleE_year (fy := fy) (ty := ty) (mo := mo) (k := k) (wk := wk) (d := d) (a := a) (sv := sv) (le := le) hB ho hL (y := y) h1 h2 h3)
        have RO := Lib.hid (ruleE_ok (fy := fy) (ty := ty) (mo := mo) (k := k) (wk := wk) (d := d) (a := a) (sv := sv) (le := le) hB ho hL)
        have hYT : Hid (yearsTo fy fy mo k wk d) := yearsTo_start
        clear hB ho hL
        go_enter Tryz.func81, Tryz.ntmps81
        go_wp2_with (first
          | (go_at_call 112; refine (isYearR_any _ _).mono ?_; rintro e w' ⟨rfl, rfl⟩)
          | (go_at_call 113; refine (isMonthR_any _ _).mono ?_; rintro e w' ⟨rfl, rfl⟩)
          | (go_at_call 43; refine (within_any _ _ _ _).mono ?_; rintro e w' ⟨rfl, rfl⟩)
          | (go_at_call 114; refine (checkOn_any _ _ _ _).mono ?_; rintro e w1 ⟨rfl, hb1⟩; simp only [World.size_alloc] at hb1; obtain ⟨c0, c1, c2, c3, c4, c5, c6, c7, c8⟩ := box9 hb1)
          | (go_at_call 59; refine (lettersR_any _ _ hle).mono ?_; rintro e w' ⟨rfl, rfl⟩))
        go_loopw [4] (fun v wr => ∃ y : Int, fy ≤ y ∧ y ≤ ty + 1 ∧ v = .int .i64 y ∧ yearsTo fy y mo k wk d ∧ Below (w.heap.size + 1) (w.alloc (.cells #[.int .i64 fy, .int .i64 ty, .int .i64 mo, .int .i64 k, .int .i64 wk, .int .i64 d, .int .i64 a, .int .i64 sv, .string le] 99)) wr) (fun v _ => (ty + 1 - intOf v).toNat)
        case atStart => exact ⟨fy, by omega, by omega, rfl, hYT.out, hb1⟩
        case round =>
          obtain ⟨y, y1, y2, rfl, hyt, hbr⟩ := hrel
          have HY := Lib.hid hyt
          clear hyt hb1 hYT c0 c1 c2 c3 c4 c5 c6 c7 c8
          obtain ⟨c0, c1, c2, c3, c4, c5, c6, c7, c8⟩ := box9 hbr
          by_cases hy : y ≤ ty
          · by_cases hf : findE y mo k wk d = 0
            · have hfb : (findE y mo k wk d != 0) = false := by simpa using hf
              have HN := Lib.hid (yearsTo_step HY.out hf)
              clear hf
              go_wp2_with (go_at_call 115; refine (findOf_any _ _ _ _ _ _).mono ?_; rintro e w4 ⟨rfl, hb4⟩; have hb5 := hbr.trans (hb4.mono (box_le hbr)); clear hb4 hbr)
              go_roundw
              case rel => exact ⟨y + 1, by omega, by omega, rfl, HN.out, hb5⟩
              case measure => simp [intOf]; omega
            · have hfb : (findE y mo k wk d != 0) = true := by simpa using hf
              have HN := Lib.hid (RY.out y y1 hy hf)
              clear hf
              go_wp2_with (go_at_call 115; refine (findOf_any _ _ _ _ _ _).mono ?_; rintro e w4 ⟨rfl, hb4⟩; have hb5 := hbr.trans (hb4.mono (box_le hbr)); clear hb4 hbr)
              go_ret
              exact ⟨ret_int HN.out.symm, box_below hb5⟩
          · have HN := Lib.hid (RO.out (yearsTo_end HY.out (by omega)))
            go_wp2
            go_ret
            exact ⟨ret_int HN.out.symm, box_below hbr⟩
      · have HE := Lib.hid (ruleE_let (mo := mo) hB ho hL)
        by_cases l1 : le.size ≤ 12
        · have l2 : allLet le = false := by simpa [letOk, l1] using hL
          clear hB ho hL
          go_enter Tryz.func81, Tryz.ntmps81
          go_wp2_with (first
            | (go_at_call 112; refine (isYearR_any _ _).mono ?_; rintro e w' ⟨rfl, rfl⟩)
            | (go_at_call 113; refine (isMonthR_any _ _).mono ?_; rintro e w' ⟨rfl, rfl⟩)
            | (go_at_call 43; refine (within_any _ _ _ _).mono ?_; rintro e w' ⟨rfl, rfl⟩)
            | (go_at_call 114; refine (checkOn_any _ _ _ _).mono ?_; rintro e w1 ⟨rfl, hb1⟩; simp only [World.size_alloc] at hb1; obtain ⟨c0, c1, c2, c3, c4, c5, c6, c7, c8⟩ := box9 hb1)
            | (go_at_call 59; refine (lettersR_any _ _ hle).mono ?_; rintro e w' ⟨rfl, rfl⟩))
          go_ret
          exact ⟨ret_int HE.out.symm, box_below hb1⟩
        · clear hB ho hL
          go_enter Tryz.func81, Tryz.ntmps81
          go_wp2_with (first
            | (go_at_call 112; refine (isYearR_any _ _).mono ?_; rintro e w' ⟨rfl, rfl⟩)
            | (go_at_call 113; refine (isMonthR_any _ _).mono ?_; rintro e w' ⟨rfl, rfl⟩)
            | (go_at_call 43; refine (within_any _ _ _ _).mono ?_; rintro e w' ⟨rfl, rfl⟩)
            | (go_at_call 114; refine (checkOn_any _ _ _ _).mono ?_; rintro e w1 ⟨rfl, hb1⟩; simp only [World.size_alloc] at hb1; obtain ⟨c0, c1, c2, c3, c4, c5, c6, c7, c8⟩ := box9 hb1))
          go_ret
          exact ⟨ret_int HE.out.symm, box_below hb1⟩
    · have hob : (onE k wk d != 0) = true := by simpa using ho
      have HE := Lib.hid (ruleE_on (le := le) (mo := mo) hB ho)
      clear hB ho
      go_enter Tryz.func81, Tryz.ntmps81
      go_wp2_with (first
        | (go_at_call 112; refine (isYearR_any _ _).mono ?_; rintro e w' ⟨rfl, rfl⟩)
        | (go_at_call 113; refine (isMonthR_any _ _).mono ?_; rintro e w' ⟨rfl, rfl⟩)
        | (go_at_call 43; refine (within_any _ _ _ _).mono ?_; rintro e w' ⟨rfl, rfl⟩)
        | (go_at_call 114; refine (checkOn_any _ _ _ _).mono ?_; rintro e w1 ⟨rfl, hb1⟩; simp only [World.size_alloc] at hb1; obtain ⟨c0, c1, c2, c3, c4, c5, c6, c7, c8⟩ := box9 hb1))
      go_ret
      exact ⟨ret_int HE.out.symm, box_below hb1⟩
  · have HE := Lib.hid (ruleE_basic (k := k) (wk := wk) (d := d) (le := le) hB)
    have hB' : ¬ (1970 ≤ fy ∧ fy ≤ ty ∧ ty ≤ 2029 ∧ (1 ≤ mo ∧ mo ≤ 12) ∧ (0 ≤ a ∧ a ≤ 86400) ∧ (0 ≤ sv ∧ sv ≤ 7200)) := fun x => by
      rw [(ruleBasic_iff _ _ _ _ _).2 x] at hB; cases hB
    clear hB
    rcases hcases (isYear fy) with q0 | q0
    rotate_left
    · clear hB'
      go_enter Tryz.func81, Tryz.ntmps81
      go_wp2_with (first
        | (go_at_call 112; refine (isYearR_any _ _).mono ?_; rintro e w' ⟨rfl, rfl⟩)
        | (go_at_call 113; refine (isMonthR_any _ _).mono ?_; rintro e w' ⟨rfl, rfl⟩)
        | (go_at_call 43; refine (within_any _ _ _ _).mono ?_; rintro e w' ⟨rfl, rfl⟩))
      go_ret
      exact ⟨ret_int HE.out.symm, (Below.refl _ _).alloc (Nat.le_refl _) _⟩
    · have r0 := (isYear_iff fy).1 q0
      rcases hcases (isYear ty) with q1 | q1
      rotate_left
      · clear hB'
        go_enter Tryz.func81, Tryz.ntmps81
        go_wp2_with (first
          | (go_at_call 112; refine (isYearR_any _ _).mono ?_; rintro e w' ⟨rfl, rfl⟩)
          | (go_at_call 113; refine (isMonthR_any _ _).mono ?_; rintro e w' ⟨rfl, rfl⟩)
          | (go_at_call 43; refine (within_any _ _ _ _).mono ?_; rintro e w' ⟨rfl, rfl⟩))
        go_ret
        exact ⟨ret_int HE.out.symm, (Below.refl _ _).alloc (Nat.le_refl _) _⟩
      · have r1 := (isYear_iff ty).1 q1
        by_cases q2 : ty < fy
        · clear hB'
          go_enter Tryz.func81, Tryz.ntmps81
          go_wp2_with (first
            | (go_at_call 112; refine (isYearR_any _ _).mono ?_; rintro e w' ⟨rfl, rfl⟩)
            | (go_at_call 113; refine (isMonthR_any _ _).mono ?_; rintro e w' ⟨rfl, rfl⟩)
            | (go_at_call 43; refine (within_any _ _ _ _).mono ?_; rintro e w' ⟨rfl, rfl⟩))
          go_ret
          exact ⟨ret_int HE.out.symm, (Below.refl _ _).alloc (Nat.le_refl _) _⟩
        · skip
          rcases hcases (isMonth mo) with q3 | q3
          rotate_left
          · clear hB'
            go_enter Tryz.func81, Tryz.ntmps81
            go_wp2_with (first
              | (go_at_call 112; refine (isYearR_any _ _).mono ?_; rintro e w' ⟨rfl, rfl⟩)
              | (go_at_call 113; refine (isMonthR_any _ _).mono ?_; rintro e w' ⟨rfl, rfl⟩)
              | (go_at_call 43; refine (within_any _ _ _ _).mono ?_; rintro e w' ⟨rfl, rfl⟩))
            go_ret
            exact ⟨ret_int HE.out.symm, (Below.refl _ _).alloc (Nat.le_refl _) _⟩
          · have r3 := (isMonth_iff mo).1 q3
            rcases hcases (withinB a 0 86400) with q4 | q4
            rotate_left
            · clear hB'
              go_enter Tryz.func81, Tryz.ntmps81
              go_wp2_with (first
                | (go_at_call 112; refine (isYearR_any _ _).mono ?_; rintro e w' ⟨rfl, rfl⟩)
                | (go_at_call 113; refine (isMonthR_any _ _).mono ?_; rintro e w' ⟨rfl, rfl⟩)
                | (go_at_call 43; refine (within_any _ _ _ _).mono ?_; rintro e w' ⟨rfl, rfl⟩))
              go_ret
              exact ⟨ret_int HE.out.symm, (Below.refl _ _).alloc (Nat.le_refl _) _⟩
            · have r4 := (withinB_iff _ _ _).1 q4
              have q9 : withinB sv 0 7200 = false := (withinB_no _ _ _).2 (by omega)
              clear hB'
              go_enter Tryz.func81, Tryz.ntmps81
              go_wp2_with (first
                | (go_at_call 112; refine (isYearR_any _ _).mono ?_; rintro e w' ⟨rfl, rfl⟩)
                | (go_at_call 113; refine (isMonthR_any _ _).mono ?_; rintro e w' ⟨rfl, rfl⟩)
                | (go_at_call 43; refine (within_any _ _ _ _).mono ?_; rintro e w' ⟨rfl, rfl⟩))
              go_ret
              exact ⟨ret_int HE.out.symm, (Below.refl _ _).alloc (Nat.le_refl _) _⟩
end Go.Proofs.YtbbbeldbhlehnaaGreat
end
/-! The walks of rules.Begin, At and the reference's begins, AtOf. -/
section
set_option linter.unusedVariables false
set_option linter.unusedSimpArgs false
namespace Gno
def stdOk (s : Int) : Bool := decide (-50400 ≤ s ∧ s ≤ 50400)
theorem stdOk_iff (s : Int) : stdOk s = true ↔ -50400 ≤ s ∧ s ≤ 50400 := by unfold stdOk; rw [decide_eq_true_iff]
/-- when a right rule begins in a year. -/
def beginN (y mo k wk d a std : Int) : Int := num y mo (findN y mo k wk d) * 86400 + a - std
noncomputable def atE (fy ty mo k wk d a sv : Int) (le : ByteArray) (y std : Int) : Int :=
  if ruleE fy ty mo k wk d a sv le ≠ 0 then ruleE fy ty mo k wk d a sv le else if (fy ≤ y ∧ y ≤ ty) ∧ stdOk std = true then 0 else 3
noncomputable def atN (fy ty mo k wk d a sv : Int) (le : ByteArray) (y std : Int) : Int :=
  if ruleE fy ty mo k wk d a sv le ≠ 0 then 0 else if (fy ≤ y ∧ y ≤ ty) ∧ stdOk std = true then beginN y mo k wk d a std else 0
theorem found_pos {y m k w d : Int} (h : findE y m k w d = 0) : isDate y m (findN y m k w d) = true := by
  have hk : onE k w d = 0 ∧ isYM y m = true ∧ findR y m k w d ≤ size y m ∧ findN y m k w d = findR y m k w d := by
    unfold findE at h
    by_cases ho : onE k w d ≠ 0
    · rw [if_pos ho] at h
      exact absurd h ho
    · rw [if_neg ho] at h
      cases hy : isYM y m
      · rw [if_pos hy] at h
        omega
      · rw [if_neg (by rw [hy]; simp)] at h
        by_cases hl : size y m < findR y m k w d
        · rw [if_pos hl] at h
          omega
        · refine ⟨by omega, rfl, by omega, ?_⟩
          unfold findN
          rw [if_neg ho, if_neg (by rw [hy]; simp), if_neg hl]
  obtain ⟨ho, hy, hle, hN⟩ := hk
  have hym : (1970 ≤ y ∧ y ≤ 2029) ∧ (1 ≤ m ∧ m ≤ 12) := by simpa [isYM, isYear, isMonth] using hy
  have hs := size_bd y m hym.2.1 hym.2.2
  rw [hN]
  refine (isDate_iff _ _ _).2 ⟨hym.1, hym.2, ?_, hle⟩
  unfold findR
  rcases onE_ok ho with ⟨rfl, rfl, d1, d2⟩ | ⟨rfl, ⟨k1, k2⟩, rfl⟩ | ⟨rfl, ⟨k1, k2⟩, d1, d2⟩
  · rw [exact_is]; exact d1
  · have := last_is w 0 (pick1 y m) (size y m) k1 k2; omega
  · have := after_is w d (pick1 y m) (size y m) k1 k2; omega
theorem begin_in {y mo k wk d a std : Int} (h : findE y mo k wk d = 0) : 0 ≤ num y mo (findN y mo k wk d) ∧ num y mo (findN y mo k wk d) ≤ 21914 := (isDay_iff _).1 (day_of _ _ _ (found_pos h)).1
end Gno
namespace Go.Proofs.YtbbbeldbhlehnaaGreat
open Go.RowKit Gno
theorem isStd_any (std : Int) (w : World) :
    Calls Tryz.prog 116 #[.int .i64 std] w fun e w' => e = .returned (.bool (stdOk std)) ∧ w = w' := by
  go_enter Tryz.func116, Tryz.ntmps116
  go_wp2_with (go_at_call 43; refine (within_any _ _ _ _).mono ?_; rintro e w' ⟨rfl, rfl⟩)
  go_ret
  exact ⟨rfl, rfl⟩
def timeOk (t : Int) : Bool := withinB t 0 1893455999
theorem isTime_any (t : Int) (w : World) :
    Calls Tryz.prog 57 #[.int .i64 t] w fun e w' => e = .returned (.bool (timeOk t)) ∧ w = w' := by
  go_enter Tryz.func57, Tryz.ntmps57
  go_wp2_with (go_at_call 43; refine (within_any _ _ _ _).mono ?_; rintro e w' ⟨rfl, rfl⟩)
  go_ret
  exact ⟨rfl, rfl⟩

end Go.Proofs.YtbbbeldbhlehnaaGreat
end
/-! Rules in memory. -/
section
set_option linter.unusedVariables false
set_option linter.unusedSimpArgs false
namespace Gno
structure Rl where
  fy : Int
  ty : Int
  mo : Int
  k : Int
  wk : Int
  d : Int
  a : Int
  sv : Int
  le : ByteArray
end Gno
namespace Go.Proofs.YtbbbeldbhlehnaaGreat
open Go.RowKit Gno

/-- the nine cells of a rule lie in block b from o on. -/
def RuleAt (w : World) (b o : Nat) (r : Rl) : Prop :=
  w.cell? ⟨b, o, none⟩ = some (.int .i64 r.fy) ∧ w.cell? ⟨b, o + 1, none⟩ = some (.int .i64 r.ty) ∧ w.cell? ⟨b, o + 2, none⟩ = some (.int .i64 r.mo) ∧
  w.cell? ⟨b, o + 3, none⟩ = some (.int .i64 r.k) ∧ w.cell? ⟨b, o + 4, none⟩ = some (.int .i64 r.wk) ∧ w.cell? ⟨b, o + 5, none⟩ = some (.int .i64 r.d) ∧
  w.cell? ⟨b, o + 6, none⟩ = some (.int .i64 r.a) ∧ w.cell? ⟨b, o + 7, none⟩ = some (.int .i64 r.sv) ∧ w.cell? ⟨b, o + 8, none⟩ = some (.string r.le)
theorem RuleAt.below {B : Nat} {w w' : World} {b o : Nat} {r : Rl} (h : RuleAt w b o r) (hb : Below B w w') (hB : b < B) : RuleAt w' b o r := by
  obtain ⟨h0, h1, h2, h3, h4, h5, h6, h7, h8⟩ := h
  exact ⟨(hb.cell hB).trans h0, (hb.cell hB).trans h1, (hb.cell hB).trans h2, (hb.cell hB).trans h3, (hb.cell hB).trans h4, (hb.cell hB).trans h5, (hb.cell hB).trans h6, (hb.cell hB).trans h7, (hb.cell hB).trans h8⟩
/-- a slice value of address A and length n reads as the rules rs, all below block B. -/
def RulesAt (w : World) (B : Nat) (A : Option Addr) (n : Nat) (rs : List Rl) : Prop :=
  rs.length = n ∧ n ≤ maxLen ∧ (0 < n → ∃ b o, A = some ⟨b, o, none⟩ ∧ b < B ∧ ∀ i r, rs[i]? = some r → RuleAt w b (o + i * 9) r ∧ r.le.size ≤ maxLen)
theorem RulesAt.below {B B' : Nat} {w w' : World} {A : Option Addr} {n : Nat} {rs : List Rl} (h : RulesAt w B A n rs) (hb : Below B' w w') (hB : B ≤ B') : RulesAt w' B A n rs :=
  ⟨h.1, h.2.1, fun hn => by
    obtain ⟨b, o, e, hbB, hc⟩ := h.2.2 hn
    exact ⟨b, o, e, hbB, fun i r hi => ⟨(hc i r hi).1.below hb (by omega), (hc i r hi).2⟩⟩⟩
theorem RulesAt.more {B B' : Nat} {w : World} {A : Option Addr} {n : Nat} {rs : List Rl} (h : RulesAt w B A n rs) (hB : B ≤ B') : RulesAt w B' A n rs :=
  ⟨h.1, h.2.1, fun hn => by
    obtain ⟨b, o, e, hbB, hc⟩ := h.2.2 hn
    exact ⟨b, o, e, by omega, hc⟩⟩
end Go.Proofs.YtbbbeldbhlehnaaGreat
end
/-! Which rule has begun last: the plain functions. No program in sight. -/
section
set_option linter.unusedVariables false
set_option linter.unusedSimpArgs false
namespace Gno

/-- of the years from lo to hi the last one at which g is not behind t; m is g there. -/
def IsTop (g : Int → Int) (lo hi t m : Int) : Prop := ∃ y, lo ≤ y ∧ y ≤ hi ∧ g y = m ∧ m ≤ t ∧ ∀ z, y < z → z ≤ hi → t < g z
open Classical in
noncomputable def topOf (g : Int → Int) (lo hi t : Int) : Option Int := if h : ∃ m, IsTop g lo hi t m then some h.choose else none
theorem IsTop.uniq {g : Int → Int} {lo hi t m m' : Int} (h : IsTop g lo hi t m) (h' : IsTop g lo hi t m') : m = m' := by
  obtain ⟨y, h1, h2, h3, h4, h5⟩ := h
  obtain ⟨z, k1, k2, k3, k4, k5⟩ := h'
  rcases Int.lt_trichotomy y z with q | q | q
  · have := h5 z q k2; omega
  · subst q; omega
  · have := k5 y q h2; omega
theorem topOf_some {g : Int → Int} {lo hi t m : Int} (h : IsTop g lo hi t m) : topOf g lo hi t = some m := by
  have hx : ∃ m, IsTop g lo hi t m := ⟨m, h⟩
  unfold topOf
  rw [dif_pos hx, hx.choose_spec.uniq h]
theorem topOf_none {g : Int → Int} {lo hi t : Int} (h : ∀ z, lo ≤ z → z ≤ hi → t < g z) : topOf g lo hi t = none := by
  unfold topOf
  rw [dif_neg]
  rintro ⟨m, y, h1, h2, h3, h4, _⟩
  have := h y h1 h2
  omega
/-- one year more. -/
theorem topOf_late {g : Int → Int} {lo hi t : Int} (h : t < g (hi + 1)) : topOf g lo (hi + 1) t = topOf g lo hi t := by
  by_cases hx : ∃ m, IsTop g lo hi t m
  · obtain ⟨m, hm⟩ := hx
    rw [topOf_some hm]
    obtain ⟨y, h1, h2, h3, h4, h5⟩ := hm
    refine topOf_some ⟨y, h1, by omega, h3, h4, fun z q1 q2 => ?_⟩
    rcases Int.lt_or_le hi z with q3 | q3
    · obtain rfl : z = hi + 1 := by omega
      exact h
    · exact h5 z q1 q3
  · have e1 : topOf g lo hi t = none := by unfold topOf; rw [dif_neg hx]
    rw [e1]
    unfold topOf
    rw [dif_neg]
    rintro ⟨m, y, h1, h2, h3, h4, h5⟩
    rcases Int.lt_or_le hi y with q | q
    · obtain rfl : y = hi + 1 := by omega
      omega
    · exact hx ⟨m, y, h1, q, h3, h4, fun z q1 q2 => h5 z q1 (by omega)⟩
theorem topOf_here {g : Int → Int} {lo hi t : Int} (hl : lo ≤ hi) (h : g hi ≤ t) : topOf g lo hi t = some (g hi) :=
  topOf_some ⟨hi, hl, Int.le_refl _, rfl, h, fun z q1 q2 => by omega⟩

/-- one rule more: k its number, o when it has begun last. -/
def lstep (k : Int) (s : Int × Int) (o : Option Int) : Int × Int :=
  match o with
  | none => s
  | some m => if s.1 < 0 ∨ s.2 ≤ m then (k, m) else s
theorem lstep_if (k m : Int) (s : Int × Int) : ((s.1 < 0 ∨ s.2 ≤ m) ∧ lstep k s (some m) = (k, m)) ∨ (¬ (s.1 < 0 ∨ s.2 ≤ m) ∧ lstep k s (some m) = s) := by
  by_cases c : s.1 < 0 ∨ s.2 ≤ m
  · exact .inl ⟨c, by simp only [lstep]; rw [if_pos c]⟩
  · exact .inr ⟨c, by simp only [lstep]; rw [if_neg c]⟩
/-- the reference goes up: a year more, which turns the state. -/
theorem lstep_up_yes (g : Int → Int) (lo hi t k : Int) (s c : Int × Int) (hc : c = lstep k s (topOf g lo hi t)) (hl : lo ≤ hi + 1) (hg : ∀ y, lo ≤ y → y ≤ hi → g y < g (hi + 1))
    (h : g (hi + 1) ≤ t) (hu : c.1 < 0 ∨ c.2 ≤ g (hi + 1)) : lstep k s (topOf g lo (hi + 1) t) = (k, g (hi + 1)) := by
  rw [topOf_here hl h]
  rcases lstep_if k (g (hi + 1)) s with ⟨_, e⟩ | ⟨q, e⟩
  · exact e
  · exfalso
    by_cases hx : ∃ m, IsTop g lo hi t m
    · obtain ⟨m, hm⟩ := hx
      rw [topOf_some hm] at hc
      obtain ⟨y, h1, h2, h3, h4, h5⟩ := hm
      have hlt := hg y h1 h2
      rcases lstep_if k m s with ⟨q2, e2⟩ | ⟨q2, e2⟩
      · exact q (by omega)
      · rw [e2] at hc
        rw [hc] at hu
        exact q hu
    · have e1 : topOf g lo hi t = none := by unfold topOf; rw [dif_neg hx]
      rw [e1] at hc
      simp only [lstep] at hc
      rw [hc] at hu
      exact q hu
/-- .. or does not. -/
theorem lstep_up_no (g : Int → Int) (lo hi t k : Int) (s c : Int × Int) (hc : c = lstep k s (topOf g lo hi t)) (hl : lo ≤ hi + 1) (hg : ∀ y, lo ≤ y → y ≤ hi → g y < g (hi + 1))
    (hu : ¬ (g (hi + 1) ≤ t ∧ (c.1 < 0 ∨ c.2 ≤ g (hi + 1)))) : lstep k s (topOf g lo (hi + 1) t) = c := by
  by_cases h : g (hi + 1) ≤ t
  · rw [topOf_here hl h]
    have hn : ¬ (c.1 < 0 ∨ c.2 ≤ g (hi + 1)) := fun q => hu ⟨h, q⟩
    by_cases hx : ∃ m, IsTop g lo hi t m
    · obtain ⟨m, hm⟩ := hx
      rw [topOf_some hm] at hc
      obtain ⟨y, h1, h2, h3, h4, h5⟩ := hm
      have hlt := hg y h1 h2
      rcases lstep_if k m s with ⟨q2, e2⟩ | ⟨q2, e2⟩
      · rw [e2] at hc
        rw [hc] at hn
        exact absurd (.inr (by simp only; omega)) hn
      · rw [e2] at hc
        rcases lstep_if k (g (hi + 1)) s with ⟨q, e⟩ | ⟨q, e⟩
        · rw [hc] at hn
          exact absurd q hn
        · rw [e, hc]
    · have e1 : topOf g lo hi t = none := by unfold topOf; rw [dif_neg hx]
      rw [e1] at hc
      simp only [lstep] at hc
      rcases lstep_if k (g (hi + 1)) s with ⟨q, e⟩ | ⟨q, e⟩
      · rw [hc] at hn
        exact absurd q hn
      · rw [e, hc]
  · rw [topOf_late (by omega), hc]

/-- when a rule begins in a year. -/
def Rl.g (r : Rl) (std : Int) (y : Int) : Int := beginN y r.mo r.k r.wk r.d r.a std
noncomputable def Rl.e (r : Rl) : Int := ruleE r.fy r.ty r.mo r.k r.wk r.d r.a r.sv r.le
noncomputable def Rl.top (r : Rl) (std t : Int) : Option Int := topOf (r.g std) r.fy r.ty t
/-- which rule has begun last, of the first i; and when. -/
noncomputable def latestTo (rs : List Rl) (std t : Int) : Nat → Int × Int
  | 0 => (-1, 0)
  | i + 1 => match rs[i]? with
    | some r => lstep i (latestTo rs std t i) (r.top std t)
    | none => latestTo rs std t i
noncomputable def latest (rs : List Rl) (std t : Int) : Int × Int := latestTo rs std t rs.length

theorem lstep_bd (k : Int) (s : Int × Int) (o : Option Int) (hk : 0 ≤ k) (h : -1 ≤ s.1 ∧ s.1 < k) : -1 ≤ (lstep k s o).1 ∧ (lstep k s o).1 < k + 1 := by
  unfold lstep
  split
  · omega
  · split
    · simp only; omega
    · omega
theorem latestTo_bd (rs : List Rl) (std t : Int) : ∀ i, -1 ≤ (latestTo rs std t i).1 ∧ (latestTo rs std t i).1 < i
  | 0 => by simp [latestTo]
  | i + 1 => by
    have ih := latestTo_bd rs std t i
    unfold latestTo
    split
    · have := lstep_bd i (latestTo rs std t i) (Rl.top ‹_› std t) (by omega) ih
      omega
    · omega

/-- a right rule begins later from year to year. -/
theorem begin_year {y mo k wk d a std : Int} (h1 : findE y mo k wk d = 0) (h2 : findE (y + 1) mo k wk d = 0) : beginN y mo k wk d a std < beginN (y + 1) mo k wk d a std := by
  have f1 := (isDate_iff _ _ _).1 (found_pos h1)
  have f2 := (isDate_iff _ _ _).1 (found_pos h2)
  have s1 := size_bd y mo f1.2.1.1 f1.2.1.2
  have s2 := size_bd (y + 1) mo f1.2.1.1 f1.2.1.2
  have l1 := lp_01 y
  have l2 := lp_01 (y + 1)
  have b := begin_succ y
  have ha : aheadY y mo ≤ aheadY (y + 1) mo + 1 := by unfold aheadY; split <;> omega
  unfold beginN num
  omega
theorem beginN_lt_nat {mo k wk d a std y : Int} : ∀ n : Nat, (∀ z, y ≤ z → z ≤ y + n + 1 → findE z mo k wk d = 0) → beginN y mo k wk d a std < beginN (y + n + 1) mo k wk d a std
  | 0, h => by
    have := begin_year (a := a) (std := std) (h y (by omega) (by omega)) (h (y + 1) (by omega) (by omega))
    simpa using this
  | n + 1, h => by
    have ih := beginN_lt_nat (a := a) (std := std) n (fun z h1 h2 => h z h1 (by omega))
    have := begin_year (a := a) (std := std) (h (y + n + 1) (by omega) (by omega)) (h (y + n + 1 + 1) (by omega) (by omega))
    rw [show y + ((n + 1 : Nat) : Int) + 1 = y + n + 1 + 1 by omega]
    omega
theorem beginN_lt {mo k wk d a std lo hi y z : Int} (h : ∀ z, lo ≤ z → z ≤ hi → findE z mo k wk d = 0) (h1 : lo ≤ y) (h2 : y < z) (h3 : z ≤ hi) : beginN y mo k wk d a std < beginN z mo k wk d a std := by
  have := beginN_lt_nat (a := a) (std := std) (y := y) (z - y - 1).toNat (fun q q1 q2 => h q (by omega) (by omega))
  rw [show y + ((z - y - 1).toNat : Int) + 1 = z by omega] at this
  exact this
end Gno
end
/-! The walk of rules.Latest. -/
section
set_option linter.unusedVariables false
set_option linter.unusedSimpArgs false
namespace Gno
theorem latestTo_none {rs : List Rl} {std t : Int} {i : Nat} {r : Rl} (hr : rs[i]? = some r) (h : ∀ z, r.fy ≤ z → z ≤ r.ty → t < r.g std z) : latestTo rs std t (i + 1) = latestTo rs std t i := by
  simp only [latestTo, hr, Rl.top]
  rw [topOf_none h]
  rfl
theorem latestTo_top {rs : List Rl} {std t : Int} {i : Nat} {r : Rl} {y : Int} (hr : rs[i]? = some r) (h1 : r.fy ≤ y) (h2 : y ≤ r.ty) (h3 : r.g std y ≤ t) (h : ∀ z, y < z → z ≤ r.ty → t < r.g std z) :
    ((latestTo rs std t i).1 < 0 ∨ (latestTo rs std t i).2 ≤ r.g std y → latestTo rs std t (i + 1) = ((i : Int), r.g std y)) ∧
    (¬ ((latestTo rs std t i).1 < 0 ∨ (latestTo rs std t i).2 ≤ r.g std y) → latestTo rs std t (i + 1) = latestTo rs std t i) := by
  have e : latestTo rs std t (i + 1) = lstep i (latestTo rs std t i) (some (r.g std y)) := by
    simp only [latestTo, hr, Rl.top]
    rw [topOf_some ⟨y, h1, h2, rfl, h3, h⟩]
  rw [e]
  rcases lstep_if (i : Int) (r.g std y) (latestTo rs std t i) with ⟨q, e2⟩ | ⟨q, e2⟩
  · exact ⟨fun _ => e2, fun h => absurd q h⟩
  · exact ⟨fun h => absurd h q, fun _ => e2⟩
end Gno
namespace Go.Proofs.YtbbbeldbhlehnaaGreat
open Go.RowKit Gno
end Go.Proofs.YtbbbeldbhlehnaaGreat
end
/-! The walk of the reference's last. -/
section
set_option linter.unusedVariables false
set_option linter.unusedSimpArgs false
namespace Gno
/-- how the reference says a state: which rule, when, is there one. -/
def RS (c : Int × Int) (rule when_ : Int) (is_ : Bool) : Prop := (is_ = true ∧ rule = c.1 ∧ when_ = c.2 ∧ 0 ≤ c.1) ∨ (is_ = false ∧ rule = 0 ∧ when_ = 0 ∧ c.1 < 0)
def lastB (c : Int × Int) : Bool := decide (0 ≤ c.1)
def lastR (c : Int × Int) : Int := if 0 ≤ c.1 then c.1 else 0
def lastW (c : Int × Int) : Int := if 0 ≤ c.1 then c.2 else 0
theorem RS.is {c : Int × Int} {rule when_ : Int} {is_ : Bool} (h : RS c rule when_ is_) : is_ = lastB c ∧ rule = lastR c ∧ when_ = lastW c := by
  unfold lastB lastR lastW
  rcases h with ⟨a, b, d, e⟩ | ⟨a, b, d, e⟩
  · rw [if_pos e, if_pos e]; exact ⟨by simp [a, e], b, d⟩
  · rw [if_neg (by omega), if_neg (by omega)]; exact ⟨by simp [a]; omega, b, d⟩
theorem topOf_empty {g : Int → Int} {lo hi t : Int} (h : hi < lo) : topOf g lo hi t = none := topOf_none fun z h1 h2 => by omega
/-- the state where the years ahead of y are gone through. -/
def UpTo (g : Int → Int) (lo t k : Int) (s : Int × Int) (y : Int) (c : Int × Int) : Prop := c = lstep k s (topOf g lo (y - 1) t)
theorem UpTo.start {g : Int → Int} {lo t k : Int} {s : Int × Int} : UpTo g lo t k s lo s := by
  unfold UpTo; rw [topOf_empty (by omega)]; rfl
theorem UpTo.yes {g : Int → Int} {lo t k y : Int} {s c : Int × Int} (h : UpTo g lo t k s y c) (hl : lo ≤ y) (hg : ∀ z, lo ≤ z → z < y → g z < g y) (h1 : g y ≤ t) (hu : c.1 < 0 ∨ c.2 ≤ g y) : UpTo g lo t k s (y + 1) (k, g y) := by
  have e : y - 1 + 1 = y := by omega
  have := lstep_up_yes g lo (y - 1) t k s c h (by omega) (fun z q1 q2 => by rw [e]; exact hg z q1 (by omega)) (by rw [e]; exact h1) (by rw [e]; exact hu)
  rw [e] at this
  unfold UpTo
  rw [show y + 1 - 1 = y by omega, this]
theorem UpTo.no {g : Int → Int} {lo t k y : Int} {s c : Int × Int} (h : UpTo g lo t k s y c) (hl : lo ≤ y) (hg : ∀ z, lo ≤ z → z < y → g z < g y) (hu : ¬ (g y ≤ t ∧ (c.1 < 0 ∨ c.2 ≤ g y))) : UpTo g lo t k s (y + 1) c := by
  have e : y - 1 + 1 = y := by omega
  have := lstep_up_no g lo (y - 1) t k s c h (by omega) (fun z q1 q2 => by rw [e]; exact hg z q1 (by omega)) (by rw [e]; exact hu)
  rw [e] at this
  unfold UpTo
  rw [show y + 1 - 1 = y by omega, this]
theorem latestTo_up {rs : List Rl} {std t y : Int} {i : Nat} {r : Rl} {c : Int × Int} (hr : rs[i]? = some r) (h : UpTo (r.g std) r.fy t i (latestTo rs std t i) y c) (hy : y = r.ty + 1) : c = latestTo rs std t (i + 1) := by
  simp only [latestTo, hr, Rl.top]
  unfold UpTo at h
  rw [h, hy, show r.ty + 1 - 1 = r.ty by omega]
end Gno
namespace Go.Proofs.YtbbbeldbhlehnaaGreat
open Go.RowKit Gno

theorem ret_3 {a b a' b' : Int} {c c' : Bool} (h : a = a') (h2 : b = b') (h3 : c = c') : Ending.returned (.tuple #[.int .i64 a, .int .i64 b, .bool c]) = .returned (.tuple #[.int .i64 a', .int .i64 b', .bool c']) := by rw [h, h2, h3]

end Go.Proofs.YtbbbeldbhlehnaaGreat
end
/-! The walks of rules.Last and of the reference's LastOf. -/
section
set_option linter.unusedVariables false
set_option linter.unusedSimpArgs false
namespace Gno
noncomputable def firstE : List Rl → Int
  | [] => 0
  | r :: rest => if r.e ≠ 0 then r.e else firstE rest
theorem firstE_zero : ∀ {rs : List Rl}, firstE rs = 0 → ∀ r ∈ rs, r.e = 0
  | [], _, r, hr => by cases hr
  | q :: rest, h, r, hr => by
    unfold firstE at h
    by_cases hq : q.e ≠ 0
    · rw [if_pos hq] at h; exact absurd h hq
    · rw [if_neg hq] at h
      rcases List.mem_cons.1 hr with rfl | hr
      · omega
      · exact firstE_zero h r hr
theorem firstE_all : ∀ {rs : List Rl}, (∀ r ∈ rs, r.e = 0) → firstE rs = 0
  | [], _ => rfl
  | q :: rest, h => by
    unfold firstE
    rw [if_neg (by have := h q (by simp); omega)]
    exact firstE_all fun r hr => h r (by simp [hr])
theorem firstE_drop {rs : List Rl} {i : Nat} {r : Rl} (hr : rs[i]? = some r) : (r.e ≠ 0 → firstE (rs.drop i) = r.e) ∧ (r.e = 0 → firstE (rs.drop i) = firstE (rs.drop (i + 1))) := by
  have hi : i < rs.length := (List.getElem?_eq_some_iff.1 hr).1
  have he : rs[i] = r := (List.getElem?_eq_some_iff.1 hr).2
  rw [List.drop_eq_getElem_cons hi, he]
  constructor
  · intro h; unfold firstE; rw [if_pos h]
  · intro h; rw [firstE, if_neg (by omega)]
def tOk (t : Int) : Bool := decide (0 ≤ t ∧ t ≤ 1893455999)
theorem tOk_iff (t : Int) : tOk t = true ↔ 0 ≤ t ∧ t ≤ 1893455999 := by unfold tOk; rw [decide_eq_true_iff]
noncomputable def lastE (rs : List Rl) (std t : Int) : Int :=
  if 4 < rs.length then 2 else if firstE rs ≠ 0 then firstE rs else if (stdOk std && tOk t) = false then 3 else if lastB (latest rs std t) = true then 0 else 4
noncomputable def lastK (rs : List Rl) (std t : Int) : Int := if lastE rs std t = 0 then (latest rs std t).1 else 0
noncomputable def lastT (rs : List Rl) (std t : Int) : Int := if lastE rs std t = 0 then (latest rs std t).2 else 0
section
variable {rs : List Rl} {std t : Int}
theorem lastE_many (h : 4 < rs.length) : lastE rs std t = 2 ∧ lastK rs std t = 0 ∧ lastT rs std t = 0 := by
  have e : lastE rs std t = 2 := by unfold lastE; rw [if_pos h]
  refine ⟨e, ?_, ?_⟩
  · unfold lastK; rw [if_neg (by omega)]
  · unfold lastT; rw [if_neg (by omega)]
theorem lastE_rule (h : ¬ 4 < rs.length) (hf : firstE rs ≠ 0) : lastE rs std t = firstE rs ∧ lastK rs std t = 0 ∧ lastT rs std t = 0 := by
  have e : lastE rs std t = firstE rs := by unfold lastE; rw [if_neg h, if_pos hf]
  refine ⟨e, ?_, ?_⟩
  · unfold lastK; rw [if_neg (by omega)]
  · unfold lastT; rw [if_neg (by omega)]
theorem lastE_range (h : ¬ 4 < rs.length) (hf : firstE rs = 0) (hs : (stdOk std && tOk t) = false) : lastE rs std t = 3 ∧ lastK rs std t = 0 ∧ lastT rs std t = 0 := by
  have e : lastE rs std t = 3 := by unfold lastE; rw [if_neg h, if_neg (by omega), if_pos hs]
  refine ⟨e, ?_, ?_⟩
  · unfold lastK; rw [if_neg (by omega)]
  · unfold lastT; rw [if_neg (by omega)]
theorem lastE_none (h : ¬ 4 < rs.length) (hf : firstE rs = 0) (hs : (stdOk std && tOk t) = true) (hl : ¬ 0 ≤ (latest rs std t).1) : lastE rs std t = 4 ∧ lastK rs std t = 0 ∧ lastT rs std t = 0 := by
  have e : lastE rs std t = 4 := by unfold lastE; rw [if_neg h, if_neg (by omega), if_neg (by rw [hs]; simp), if_neg (by unfold lastB; simp; omega)]
  refine ⟨e, ?_, ?_⟩
  · unfold lastK; rw [if_neg (by omega)]
  · unfold lastT; rw [if_neg (by omega)]
theorem lastE_ok (h : ¬ 4 < rs.length) (hf : firstE rs = 0) (hs : (stdOk std && tOk t) = true) (hl : 0 ≤ (latest rs std t).1) : lastE rs std t = 0 ∧ lastK rs std t = (latest rs std t).1 ∧ lastT rs std t = (latest rs std t).2 := by
  have e : lastE rs std t = 0 := by unfold lastE; rw [if_neg h, if_neg (by omega), if_neg (by rw [hs]; simp), if_pos (by unfold lastB; simp; omega)]
  refine ⟨e, ?_, ?_⟩
  · unfold lastK; rw [if_pos e]
  · unfold lastT; rw [if_pos e]
end
end Gno
namespace Go.Proofs.YtbbbeldbhlehnaaGreat
open Go.RowKit Gno
theorem ret_iii {a b c a' b' c' : Int} (h : a = a') (h2 : b = b') (h3 : c = c') : Ending.returned (.tuple #[.int .i64 a, .int .i64 b, .int .i64 c]) = .returned (.tuple #[.int .i64 a', .int .i64 b', .int .i64 c']) := by rw [h, h2, h3]

end Go.Proofs.YtbbbeldbhlehnaaGreat
end
/-! A set of two rules, and what holds of it. -/
section
set_option linter.unusedVariables false
set_option linter.unusedSimpArgs false
namespace Gno
def sA : Rl := ⟨1980, 2029, 3, 2, 0, 0, 7200, 3600, ⟨#[68]⟩⟩
def sB : Rl := ⟨1980, 2029, 10, 2, 0, 0, 7200, 0, ⟨#[83]⟩⟩
def springs : List Rl := [sA, sB]
theorem last_fine {y m w : Int} (hy : isYM y m = true) (h1 : 0 ≤ w) (h2 : w ≤ 6) : findE y m 2 w 0 = 0 := by
  have hym : (1970 ≤ y ∧ y ≤ 2029) ∧ (1 ≤ m ∧ m ≤ 12) := by simpa [isYM, isYear, isMonth] using hy
  have l := last_is w 0 (pick1 y m) (size y m) h1 h2
  have ho : onE 2 w 0 = 0 := by unfold onE; simp; omega
  unfold findE
  rw [if_neg (by omega), if_neg (by rw [hy]; simp), if_neg]
  unfold findR
  omega
theorem spring_years (m : Int) (h1 : 1 ≤ m) (h2 : m ≤ 12) : yearsOk 1980 2029 m 2 0 0 := fun z h3 h4 => last_fine (by simp [isYM, isYear, isMonth]; omega) (by omega) (by omega)
theorem sA_ok : sA.e = 0 := ruleE_ok rfl rfl (by decide) (spring_years 3 (by omega) (by omega))
theorem sB_ok : sB.e = 0 := ruleE_ok rfl rfl (by decide) (spring_years 10 (by omega) (by omega))
theorem sX_e : ruleE 1980 2029 3 2 0 0 7200 3600 ⟨#[49]⟩ = 5 := ruleE_let rfl rfl (by decide)
theorem springs_ok : firstE springs = 0 := firstE_all fun r hr => by
  rcases List.mem_cons.1 hr with rfl | hr
  · exact sA_ok
  · rcases List.mem_cons.1 hr with rfl | hr
    · exact sB_ok
    · cases hr
theorem sA_at : atN 1980 2029 3 2 0 0 7200 3600 ⟨#[68]⟩ 2020 3600 = 1585443600 ∧ atE 1980 2029 3 2 0 0 7200 3600 ⟨#[68]⟩ 2020 3600 = 0 := by
  have h : ruleE 1980 2029 3 2 0 0 7200 3600 ⟨#[68]⟩ = 0 := sA_ok
  unfold atN atE
  have hn : ¬ (ruleE 1980 2029 3 2 0 0 7200 3600 ⟨#[68]⟩ ≠ 0) := fun x => x h
  have hp : ((1980 : Int) ≤ 2020 ∧ (2020 : Int) ≤ 2029) ∧ stdOk 3600 = true := ⟨by omega, rfl⟩
  rw [if_neg hn, if_neg hn, if_pos hp, if_pos hp]
  exact ⟨by decide, rfl⟩
/-- the last year of a rule of the set that has begun. -/
theorem spring_top (m a : Int) (h1 : 1 ≤ m) (h2 : m ≤ 12) (std t y : Int) (hy1 : 1980 ≤ y) (hy2 : y ≤ 2029) (hle : beginN y m 2 0 0 a std ≤ t) (hgt : y < 2029 → t < beginN (y + 1) m 2 0 0 a std) :
    topOf (fun y => beginN y m 2 0 0 a std) 1980 2029 t = some (beginN y m 2 0 0 a std) := by
  refine topOf_some ⟨y, hy1, hy2, rfl, hle, fun z q1 q2 => ?_⟩
  have h := hgt (by omega)
  rcases Int.lt_or_le (y + 1) z with q | q
  · have := beginN_lt (a := a) (std := std) (lo := 1980) (hi := 2029) (spring_years m h1 h2) (y := y + 1) (z := z) (by omega) q q2
    show t < beginN z m 2 0 0 a std
    omega
  · obtain rfl : z = y + 1 := by omega
    exact h
theorem latest2 (r q : Rl) (std t : Int) : latest [r, q] std t = lstep 1 (lstep 0 (-1, 0) (r.top std t)) (q.top std t) := rfl
theorem spring_one : latest springs 3600 1585443600 = (0, 1585443600) := by
  rw [springs, latest2]
  have e1 : sA.top 3600 1585443600 = some 1585443600 := spring_top 3 7200 (by omega) (by omega) 3600 1585443600 2020 (by omega) (by omega) (by decide) (fun _ => by decide)
  have e2 : sB.top 3600 1585443600 = some 1572138000 := spring_top 10 7200 (by omega) (by omega) 3600 1585443600 2019 (by omega) (by omega) (by decide) (fun _ => by decide)
  rw [e1, e2]
  rfl
theorem spring_two : (latest springs 3600 1585443599) = (1, 1572138000) := by
  rw [springs, latest2]
  have e1 : sA.top 3600 1585443599 = some 1553994000 := spring_top 3 7200 (by omega) (by omega) 3600 1585443599 2019 (by omega) (by omega) (by decide) (fun _ => by decide)
  have e2 : sB.top 3600 1585443599 = some 1572138000 := spring_top 10 7200 (by omega) (by omega) 3600 1585443599 2019 (by omega) (by omega) (by decide) (fun _ => by decide)
  rw [e1, e2]
  rfl
theorem spring_no (m a : Int) (h1 : 1 ≤ m) (h2 : m ≤ 12) (h : 0 < beginN 1980 m 2 0 0 a 0) : topOf (fun y => beginN y m 2 0 0 a 0) 1980 2029 0 = none := by
  refine topOf_none fun z q1 q2 => ?_
  rcases Int.lt_or_le 1980 z with q | q
  · have := beginN_lt (a := a) (std := 0) (lo := 1980) (hi := 2029) (spring_years m h1 h2) (y := 1980) (z := z) (by omega) q q2
    show 0 < beginN z m 2 0 0 a 0
    omega
  · obtain rfl : z = 1980 := by omega
    exact h
theorem spring_three : latest springs 0 0 = (-1, 0) := by
  rw [springs, latest2]
  have e1 : sA.top 0 0 = none := spring_no 3 7200 (by omega) (by omega) (by decide)
  have e2 : sB.top 0 0 = none := spring_no 10 7200 (by omega) (by omega) (by decide)
  rw [e1, e2]
  rfl
theorem spring_l1 : lastE springs 3600 1585443600 = 0 ∧ lastK springs 3600 1585443600 = 0 ∧ lastT springs 3600 1585443600 = 1585443600 := by
  have h := lastE_ok (rs := springs) (std := 3600) (t := 1585443600) (by decide) springs_ok (by decide) (by rw [spring_one]; decide)
  rw [spring_one] at h
  exact h
theorem spring_l2 : lastE springs 3600 1585443599 = 0 ∧ lastK springs 3600 1585443599 = 1 ∧ lastT springs 3600 1585443599 = 1572138000 := by
  have h := lastE_ok (rs := springs) (std := 3600) (t := 1585443599) (by decide) springs_ok (by decide) (by rw [spring_two]; decide)
  rw [spring_two] at h
  exact h
theorem spring_l3 : lastE springs 0 0 = 4 ∧ lastK springs 0 0 = 0 ∧ lastT springs 0 0 = 0 :=
  lastE_none (rs := springs) (std := 0) (t := 0) (by decide) springs_ok (by decide) (by rw [spring_three]; decide)
end Gno
namespace Go.Proofs.YtbbbeldbhlehnaaGreat
open Go.RowKit Gno

theorem spring_any (w : World) :
    Calls Tryz.prog 60 #[] w fun e w' => e = .returned (.slice (some ⟨w.heap.size, 0, none⟩) 2 2) ∧
      (w.alloc (.cells #[.int .i64 1980, .int .i64 2029, .int .i64 3, .int .i64 2, .int .i64 0, .int .i64 0, .int .i64 7200, .int .i64 3600, .string ⟨#[68]⟩,
        .int .i64 1980, .int .i64 2029, .int .i64 10, .int .i64 2, .int .i64 0, .int .i64 0, .int .i64 7200, .int .i64 0, .string ⟨#[83]⟩] 99)) = w' := by
  go_enter Tryz.func60, Tryz.ntmps60
  go_wp2
  go_ret
  exact ⟨rfl, rfl⟩
theorem spring_at (w : World) : RulesAt (w.alloc (.cells #[.int .i64 1980, .int .i64 2029, .int .i64 3, .int .i64 2, .int .i64 0, .int .i64 0, .int .i64 7200, .int .i64 3600, .string ⟨#[68]⟩,
        .int .i64 1980, .int .i64 2029, .int .i64 10, .int .i64 2, .int .i64 0, .int .i64 0, .int .i64 7200, .int .i64 0, .string ⟨#[83]⟩] 99)) (w.heap.size + 1) (some ⟨w.heap.size, 0, none⟩) 2 springs := by
  refine ⟨rfl, by decide, fun _ => ⟨w.heap.size, 0, rfl, by omega, fun i r hr => ?_⟩⟩
  match i, hr with
  | 0, hr =>
    obtain rfl : sA = r := by simpa [springs] using hr
    exact ⟨⟨by simp [sA], by simp [sA], by simp [sA], by simp [sA], by simp [sA], by simp [sA], by simp [sA], by simp [sA], by simp [sA]⟩, by decide⟩
  | 1, hr =>
    obtain rfl : sB = r := by simpa [springs] using hr
    exact ⟨⟨by simp [sB], by simp [sB], by simp [sB], by simp [sB], by simp [sB], by simp [sB], by simp [sB], by simp [sB], by simp [sB]⟩, by decide⟩
  | i + 2, hr => simp [springs] at hr
end Go.Proofs.YtbbbeldbhlehnaaGreat
end
