/- The walks of rules.Check and of the reference's CheckRule. -/
import Derived.Test.YtlmphmfadikdpaaPick5
import Derived.Test.YtlmphmfadikdpaaRulesPlain
import Derived.Test.YtlmphmfadikdpaaLetters2
set_option linter.unusedVariables false
namespace Go.Proofs.Ytlmphmfadikdpaa
open Go.RowKit Gno

/-- a box of nine cells, seen in a later world. -/
theorem box9 {w w3 : World} {c0 c1 c2 c3 c4 c5 c6 c7 c8 : Value} {T : TypeId} (hb : Below (w.heap.size + 1) (w.alloc (.cells #[c0, c1, c2, c3, c4, c5, c6, c7, c8] T)) w3) :
    w3.cell? ⟨w.heap.size, 0, none⟩ = some c0 ∧ w3.cell? ⟨w.heap.size, 1, none⟩ = some c1 ∧ w3.cell? ⟨w.heap.size, 2, none⟩ = some c2 ∧ w3.cell? ⟨w.heap.size, 3, none⟩ = some c3 ∧ w3.cell? ⟨w.heap.size, 4, none⟩ = some c4 ∧
    w3.cell? ⟨w.heap.size, 5, none⟩ = some c5 ∧ w3.cell? ⟨w.heap.size, 6, none⟩ = some c6 ∧ w3.cell? ⟨w.heap.size, 7, none⟩ = some c7 ∧ w3.cell? ⟨w.heap.size, 8, none⟩ = some c8 := by
  refine ⟨?_, ?_, ?_, ?_, ?_, ?_, ?_, ?_, ?_⟩ <;> exact (hb.cell (by simp)).trans (by simp)

set_option maxRecDepth 100000 in
set_option maxHeartbeats 4000000 in
theorem rcheck_any (fy ty mo k wk d a sv : Int) (le : ByteArray) (w : World) (hle : le.size ≤ maxLen) :
    Calls Try.prog 38 #[.agg #[.int .i64 fy, .int .i64 ty, .int .i64 mo, .int .i64 k, .int .i64 wk, .int .i64 d, .int .i64 a, .int .i64 sv, .string le]] w fun e w' => e = .returned (.int .i64 (ruleE fy ty mo k wk d a sv le)) ∧ Below w.heap.size w w' := by
  have hle' : le.size ≤ 9223372036854775807 := hle
  have hcases : ∀ b : Bool, b = true ∨ b = false := by decide
  rcases hcases (ruleBasic fy ty mo a sv) with hB | hB
  · obtain ⟨b1, b2, b3, ⟨b4, b5⟩, ⟨b6, b7⟩, b8, b9⟩ := (ruleBasic_iff _ _ _ _ _).1 hB
    by_cases ho : onE k wk d = 0
    · have hob : (onE k wk d != 0) = false := by simpa using ho
      rcases hcases (letOk le) with hL | hL
      · have hL2 : le.size ≤ 12 ∧ allLet le = true := by simpa [letOk] using hL
        obtain ⟨l1, l2⟩ := hL2
        have RY := Lib.hid (fun y h1 h2 h3 => ruleE_year (fy := fy) (ty := ty) (mo := mo) (k := k) (wk := wk) (d := d) (a := a) (sv := sv) (le := le) hB ho hL (y := y) h1 h2 h3)
        have RO := Lib.hid (ruleE_ok (fy := fy) (ty := ty) (mo := mo) (k := k) (wk := wk) (d := d) (a := a) (sv := sv) (le := le) hB ho hL)
        have hYT : Hid (yearsTo fy fy mo k wk d) := yearsTo_start
        clear hB ho hL
        go_enter Try.func38, Try.ntmps38
        go_wp2_with (first
          | (go_at_call 27; refine (pcheck_any _ _ _ _).mono ?_; rintro e w1 ⟨rfl, hb1⟩; simp only [World.size_alloc] at hb1; obtain ⟨c0, c1, c2, c3, c4, c5, c6, c7, c8⟩ := box9 hb1)
          | (go_at_call 68; refine (letters_any _ _).mono ?_; rintro e w2 ⟨rfl, hb2⟩; have hb3 := hb1.trans (hb2.mono (box_le hb1)); clear hb1 hb2 c0 c1 c2 c3 c4 c5 c6 c7 c8; obtain ⟨c0, c1, c2, c3, c4, c5, c6, c7, c8⟩ := box9 hb3))
        go_loopw [4] (fun v wr => ∃ y : Int, fy ≤ y ∧ y ≤ ty + 1 ∧ v = .int .i64 y ∧ yearsTo fy y mo k wk d ∧ Below (w.heap.size + 1) (w.alloc (.cells #[.int .i64 fy, .int .i64 ty, .int .i64 mo, .int .i64 k, .int .i64 wk, .int .i64 d, .int .i64 a, .int .i64 sv, .string le] 54)) wr) (fun v _ => (ty + 1 - intOf v).toNat)
        case atStart => exact ⟨fy, by omega, by omega, rfl, hYT.out, hb3⟩
        case round =>
          obtain ⟨y, y1, y2, rfl, hyt, hbr⟩ := hrel
          have HY := Lib.hid hyt
          clear hyt hb3 hYT c0 c1 c2 c3 c4 c5 c6 c7 c8
          obtain ⟨c0, c1, c2, c3, c4, c5, c6, c7, c8⟩ := box9 hbr
          by_cases hy : y ≤ ty
          · by_cases hf : findE y mo k wk d = 0
            · have hfb : (findE y mo k wk d != 0) = false := by simpa using hf
              have HN := Lib.hid (yearsTo_step HY.out hf)
              clear hf
              go_wp2_with (go_at_call 24; refine (find_any _ _ _ _ _ _).mono ?_; rintro e w4 ⟨rfl, hb4⟩; have hb5 := hbr.trans (hb4.mono (box_le hbr)); clear hb4 hbr)
              go_roundw
              case rel => exact ⟨y + 1, by omega, by omega, rfl, HN.out, hb5⟩
              case measure => simp [intOf]; omega
            · have hfb : (findE y mo k wk d != 0) = true := by simpa using hf
              have HN := Lib.hid (RY.out y y1 hy hf)
              clear hf
              go_wp2_with (go_at_call 24; refine (find_any _ _ _ _ _ _).mono ?_; rintro e w4 ⟨rfl, hb4⟩; have hb5 := hbr.trans (hb4.mono (box_le hbr)); clear hb4 hbr)
              go_ret
              exact ⟨ret_int HN.out.symm, box_below hb5⟩
          · have HN := Lib.hid (RO.out (yearsTo_end HY.out (by omega)))
            go_wp2
            go_ret
            exact ⟨ret_int HN.out.symm, box_below hbr⟩
      · have HE := Lib.hid (ruleE_let (mo := mo) hB ho hL)
        by_cases l1 : le.size ≤ 12
        · have l2 : allLet le = false := by simpa [letOk, l1] using hL
          clear hB ho hL
          go_enter Try.func38, Try.ntmps38
          go_wp2_with (first
            | (go_at_call 27; refine (pcheck_any _ _ _ _).mono ?_; rintro e w1 ⟨rfl, hb1⟩; simp only [World.size_alloc] at hb1; obtain ⟨c0, c1, c2, c3, c4, c5, c6, c7, c8⟩ := box9 hb1)
            | (go_at_call 68; refine (letters_any _ _).mono ?_; rintro e w2 ⟨rfl, hb2⟩; have hb3 := hb1.trans (hb2.mono (box_le hb1)); clear hb1 hb2 c0 c1 c2 c3 c4 c5 c6 c7 c8; obtain ⟨c0, c1, c2, c3, c4, c5, c6, c7, c8⟩ := box9 hb3))
          go_ret
          exact ⟨ret_int HE.out.symm, box_below hb3⟩
        · clear hB ho hL
          go_enter Try.func38, Try.ntmps38
          go_wp2_with (first
            | (go_at_call 27; refine (pcheck_any _ _ _ _).mono ?_; rintro e w1 ⟨rfl, hb1⟩; simp only [World.size_alloc] at hb1; obtain ⟨c0, c1, c2, c3, c4, c5, c6, c7, c8⟩ := box9 hb1))
          go_ret
          exact ⟨ret_int HE.out.symm, box_below hb1⟩
    · have hob : (onE k wk d != 0) = true := by simpa using ho
      have HE := Lib.hid (ruleE_on (le := le) (mo := mo) hB ho)
      clear hB ho
      go_enter Try.func38, Try.ntmps38
      go_wp2_with (first
        | (go_at_call 27; refine (pcheck_any _ _ _ _).mono ?_; rintro e w1 ⟨rfl, hb1⟩; simp only [World.size_alloc] at hb1; obtain ⟨c0, c1, c2, c3, c4, c5, c6, c7, c8⟩ := box9 hb1))
      go_ret
      exact ⟨ret_int HE.out.symm, box_below hb1⟩
  · have HE := Lib.hid (ruleE_basic (k := k) (wk := wk) (d := d) (le := le) hB)
    have hB' : ¬ (1970 ≤ fy ∧ fy ≤ ty ∧ ty ≤ 2029 ∧ (1 ≤ mo ∧ mo ≤ 12) ∧ (0 ≤ a ∧ a ≤ 86400) ∧ (0 ≤ sv ∧ sv ≤ 7200)) := fun x => by
      rw [(ruleBasic_iff _ _ _ _ _).2 x] at hB; cases hB
    clear hB
    by_cases q0 : fy < 1970
    · clear hB'
      go_enter Try.func38, Try.ntmps38
      go_wp2
      go_ret
      exact ⟨ret_int HE.out.symm, (Below.refl _ _).alloc (Nat.le_refl _) _⟩
    · skip
      by_cases q1 : ty < fy
      · clear hB'
        go_enter Try.func38, Try.ntmps38
        go_wp2
        go_ret
        exact ⟨ret_int HE.out.symm, (Below.refl _ _).alloc (Nat.le_refl _) _⟩
      · skip
        by_cases q2 : 2029 < ty
        · clear hB'
          go_enter Try.func38, Try.ntmps38
          go_wp2
          go_ret
          exact ⟨ret_int HE.out.symm, (Below.refl _ _).alloc (Nat.le_refl _) _⟩
        · skip
          by_cases q3 : mo < 1
          · clear hB'
            go_enter Try.func38, Try.ntmps38
            go_wp2
            go_ret
            exact ⟨ret_int HE.out.symm, (Below.refl _ _).alloc (Nat.le_refl _) _⟩
          · skip
            by_cases q4 : 12 < mo
            · clear hB'
              go_enter Try.func38, Try.ntmps38
              go_wp2
              go_ret
              exact ⟨ret_int HE.out.symm, (Below.refl _ _).alloc (Nat.le_refl _) _⟩
            · skip
              by_cases q5 : a < 0
              · clear hB'
                go_enter Try.func38, Try.ntmps38
                go_wp2
                go_ret
                exact ⟨ret_int HE.out.symm, (Below.refl _ _).alloc (Nat.le_refl _) _⟩
              · skip
                by_cases q6 : 86400 < a
                · clear hB'
                  go_enter Try.func38, Try.ntmps38
                  go_wp2
                  go_ret
                  exact ⟨ret_int HE.out.symm, (Below.refl _ _).alloc (Nat.le_refl _) _⟩
                · skip
                  by_cases q7 : sv < 0
                  · clear hB'
                    go_enter Try.func38, Try.ntmps38
                    go_wp2
                    go_ret
                    exact ⟨ret_int HE.out.symm, (Below.refl _ _).alloc (Nat.le_refl _) _⟩
                  · skip
                    have q9 : 7200 < sv := by omega
                    clear hB'
                    go_enter Try.func38, Try.ntmps38
                    go_wp2
                    go_ret
                    exact ⟨ret_int HE.out.symm, (Below.refl _ _).alloc (Nat.le_refl _) _⟩
end Go.Proofs.Ytlmphmfadikdpaa
