/- What must be in any case of rules. -/
import Derived.Test.YtlmphmfadikdpaaSpring
set_option linter.unusedVariables false
namespace Go.Proofs.Ytlmphmfadikdpaa
open Go.RowKit Gno

set_option maxRecDepth 100000 in
set_option maxHeartbeats 4000000 in
theorem rulesBegun_any (w : World) :
    Calls Try.prog 37 #[] w fun e w' => e = .returned (.bool true) ∧ Below w.heap.size w w' := by
  have SP := Lib.hid spring_any
  have c1 : ∀ w, Calls Try.prog 35 #[.agg #[.int .i64 1980, .int .i64 2029, .int .i64 3, .int .i64 2, .int .i64 0, .int .i64 0, .int .i64 7200, .int .i64 3600, .string ⟨#[68]⟩], .int .i64 2020, .int .i64 3600] w fun e w' => e = .returned (.tuple #[.int .i64 1585443600, .int .i64 0]) ∧ Below w.heap.size w w' := fun w => by
    have := at9_any 1980 2029 3 2 0 0 7200 3600 2020 3600 ⟨#[68]⟩ w (by decide)
    rw [sA_at.1, sA_at.2] at this
    exact this
  have c2 : ∀ A c w, RulesAt w w.heap.size A 2 springs → Calls Try.prog 40 #[.slice A 2 c, .int .i64 3600, .int .i64 1585443600] w fun e w' => e = .returned (.tuple #[.int .i64 0, .int .i64 1585443600, .int .i64 0]) ∧ Below w.heap.size w w' := fun A c w h => by
    have := lastP_any A 2 c springs 3600 1585443600 w h
    rw [spring_l1.1, spring_l1.2.1, spring_l1.2.2] at this
    exact this
  have c3 : ∀ A c w, RulesAt w w.heap.size A 2 springs → Calls Try.prog 40 #[.slice A 2 c, .int .i64 3600, .int .i64 1585443599] w fun e w' => e = .returned (.tuple #[.int .i64 1, .int .i64 1572138000, .int .i64 0]) ∧ Below w.heap.size w w' := fun A c w h => by
    have := lastP_any A 2 c springs 3600 1585443599 w h
    rw [spring_l2.1, spring_l2.2.1, spring_l2.2.2] at this
    exact this
  have c4 : ∀ A c w, RulesAt w w.heap.size A 2 springs → Calls Try.prog 40 #[.slice A 2 c, .int .i64 0, .int .i64 0] w fun e w' => e = .returned (.tuple #[.int .i64 0, .int .i64 0, .int .i64 4]) ∧ Below w.heap.size w w' := fun A c w h => by
    have := lastP_any A 2 c springs 0 0 w h
    rw [spring_l3.1, spring_l3.2.1, spring_l3.2.2] at this
    exact this
  have c5 : ∀ w, Calls Try.prog 38 #[.agg #[.int .i64 1980, .int .i64 2029, .int .i64 3, .int .i64 2, .int .i64 0, .int .i64 0, .int .i64 7200, .int .i64 3600, .string ⟨#[68]⟩]] w fun e w' => e = .returned (.int .i64 0) ∧ Below w.heap.size w w' := fun w => by
    have := rcheck_any 1980 2029 3 2 0 0 7200 3600 ⟨#[68]⟩ w (by decide)
    rw [show ruleE 1980 2029 3 2 0 0 7200 3600 ⟨#[68]⟩ = 0 from sA_ok] at this
    exact this
  have c6 : ∀ w, Calls Try.prog 38 #[.agg #[.int .i64 1980, .int .i64 2029, .int .i64 3, .int .i64 2, .int .i64 0, .int .i64 0, .int .i64 7200, .int .i64 3600, .string ⟨#[49]⟩]] w fun e w' => e = .returned (.int .i64 5) ∧ Below w.heap.size w w' := fun w => by
    have := rcheck_any 1980 2029 3 2 0 0 7200 3600 ⟨#[49]⟩ w (by decide)
    rw [sX_e] at this
    exact this
  have C1 := Lib.hid c1
  have C2 := Lib.hid c2
  have C3 := Lib.hid c3
  have C4 := Lib.hid c4
  have C5 := Lib.hid c5
  have C6 := Lib.hid c6
  clear c1 c2 c3 c4 c5 c6
  go_enter Try.func37, Try.ntmps37
  go_wp2_with fail
  refine (SP.out _).mono ?_
  rintro e w' ⟨rfl, rfl⟩
  go_wp2_with fail
  refine (C1.out _).mono ?_
  rintro e w1 ⟨rfl, hb1⟩
  have h1 : Below w.heap.size w w1 := ((Below.refl _ _).alloc (Nat.le_refl _) _).trans (hb1.mono (by simp))
  clear hb1
  go_wp2_with fail
  refine (SP.out _).mono ?_
  rintro e w' ⟨rfl, rfl⟩
  go_wp2_with fail
  refine (C2.out _ _ _ ((spring_at _).more (by simp))).mono ?_
  rintro e w2 ⟨rfl, hb2⟩
  have h2 : Below w.heap.size w w2 := (h1.alloc h1.size _).trans (hb2.mono (by simp; have := h1.size; omega))
  clear hb2 h1
  go_wp2_with fail
  refine (SP.out _).mono ?_
  rintro e w' ⟨rfl, rfl⟩
  go_wp2_with fail
  refine (C3.out _ _ _ ((spring_at _).more (by simp))).mono ?_
  rintro e w3 ⟨rfl, hb3⟩
  have h3 : Below w.heap.size w w3 := (h2.alloc h2.size _).trans (hb3.mono (by simp; have := h2.size; omega))
  clear hb3 h2
  go_wp2_with fail
  refine (SP.out _).mono ?_
  rintro e w' ⟨rfl, rfl⟩
  go_wp2_with fail
  refine (C4.out _ _ _ ((spring_at _).more (by simp))).mono ?_
  rintro e w4 ⟨rfl, hb4⟩
  have h4 : Below w.heap.size w w4 := (h3.alloc h3.size _).trans (hb4.mono (by simp; have := h3.size; omega))
  clear hb4 h3
  go_wp2_with fail
  refine (SP.out _).mono ?_
  rintro e w' ⟨rfl, rfl⟩
  go_wp2_with fail
  refine (SP.out _).mono ?_
  rintro e w' ⟨rfl, rfl⟩
  go_wp2_with fail
  refine (C5.out _).mono ?_
  rintro e w5 ⟨rfl, hb5⟩
  have hbox : w5.cell? ⟨w4.heap.size + 1, 0, none⟩ = some (.int .i64 1980) ∧ w5.cell? ⟨w4.heap.size + 1, 1, none⟩ = some (.int .i64 2029) ∧ w5.cell? ⟨w4.heap.size + 1, 2, none⟩ = some (.int .i64 3) ∧
      w5.cell? ⟨w4.heap.size + 1, 3, none⟩ = some (.int .i64 2) ∧ w5.cell? ⟨w4.heap.size + 1, 4, none⟩ = some (.int .i64 0) ∧ w5.cell? ⟨w4.heap.size + 1, 5, none⟩ = some (.int .i64 0) ∧
      w5.cell? ⟨w4.heap.size + 1, 6, none⟩ = some (.int .i64 7200) ∧ w5.cell? ⟨w4.heap.size + 1, 7, none⟩ = some (.int .i64 3600) ∧ w5.cell? ⟨w4.heap.size + 1, 8, none⟩ = some (.string ⟨#[49]⟩) := by
    refine ⟨?_, ?_, ?_, ?_, ?_, ?_, ?_, ?_, ?_⟩ <;> exact (hb5.cell (by simp)).trans (by first | (simp [go_sem]; done) | go_simp)
  obtain ⟨d0, d1, d2, d3, d4, d5, d6, d7, d8⟩ := hbox
  have h5 : Below w.heap.size w w5 := (((h4.alloc h4.size _).alloc (by simp; have := h4.size; omega) _).alloc (by simp; have := h4.size; omega) _).trans (hb5.mono (by simp; have := h4.size; omega))
  clear hb5 h4
  go_wp2_with fail
  refine (C6.out _).mono ?_
  rintro e w6 ⟨rfl, hb6⟩
  have h6 : Below w.heap.size w w6 := h5.trans (hb6.mono h5.size)
  clear hb6 h5
  go_wp2
  go_ret
  exact ⟨rfl, h6⟩
end Go.Proofs.Ytlmphmfadikdpaa
