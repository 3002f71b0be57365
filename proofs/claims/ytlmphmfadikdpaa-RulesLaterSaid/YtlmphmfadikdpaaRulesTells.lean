/- The walks of RulesTells and RulesLast. -/
import Derived.Test.YtlmphmfadikdpaaRulesBegun
set_option linter.unusedVariables false
namespace Go.Proofs.Ytlmphmfadikdpaa
open Go.RowKit Gno
attribute [local go_sem ↓] Go.wp_at_zero Go.wp_at_succ

theorem box9_step {w W w4 : World} {o : Obj} {A : Prop} (h : Below (w.heap.size + 1) (w.alloc o) W ∧ A) (h4 : Below W.heap.size W w4) : Below (w.heap.size + 1) (w.alloc o) w4 := h.1.trans (h4.mono (box_le h.1))

set_option maxRecDepth 100000 in
set_option maxHeartbeats 4000000 in
theorem rulesTells_walk (fy ty mo k wk d a sv y std : Int) (le : ByteArray) (hle : le.size ≤ maxLen) (w : World) :
    Calls Try.prog 11 #[.agg #[.int .i64 fy, .int .i64 ty, .int .i64 mo, .int .i64 k, .int .i64 wk, .int .i64 d, .int .i64 a, .int .i64 sv, .string le], .int .i64 y, .int .i64 std] w fun e w' => e = .returned (.bool true) ∧ Below w.heap.size w w' := by
  have AT := Lib.hid (fun w => at9_any fy ty mo k wk d a sv y std le w hle)
  have AF := Lib.hid (fun w => atOf9_any fy ty mo k wk d a sv y std le w hle)
  have RC := Lib.hid (fun w => rcheck_any fy ty mo k wk d a sv le w hle)
  have RR := Lib.hid (fun w => checkRule_any fy ty mo k wk d a sv le w hle)
  clear hle
  go_enter Try.func11, Try.ntmps11
  go_wp2_with (first
    | (go_at_call 35; (with_reducible refine (AT.out _).mono ?_); rintro e w1 ⟨rfl, hb1⟩; simp only [World.size_alloc] at hb1; obtain ⟨c0, c1, c2, c3, c4, c5, c6, c7, c8⟩ := box9 hb1)
    | (go_at_call 36; (with_reducible refine (AF.out _).mono ?_); rintro e w2 ⟨rfl, hb2⟩; have hb3 := hb1.trans (hb2.mono (box_le hb1)); clear hb1 hb2 c0 c1 c2 c3 c4 c5 c6 c7 c8; obtain ⟨c0, c1, c2, c3, c4, c5, c6, c7, c8⟩ := box9 hb3))
  go_region_held3 (fun w' => Below (w.heap.size + 1) (w.alloc (.cells #[.int .i64 fy, .int .i64 ty, .int .i64 mo, .int .i64 k, .int .i64 wk, .int .i64 d, .int .i64 a, .int .i64 sv, .string le] 54)) w' ∧
      w'.cell? ⟨w.heap.size, 0, none⟩ = some (.int .i64 fy) ∧ w'.cell? ⟨w.heap.size, 1, none⟩ = some (.int .i64 ty) ∧ w'.cell? ⟨w.heap.size, 2, none⟩ = some (.int .i64 mo) ∧ w'.cell? ⟨w.heap.size, 3, none⟩ = some (.int .i64 k) ∧
      w'.cell? ⟨w.heap.size, 4, none⟩ = some (.int .i64 wk) ∧ w'.cell? ⟨w.heap.size, 5, none⟩ = some (.int .i64 d) ∧ w'.cell? ⟨w.heap.size, 6, none⟩ = some (.int .i64 a) ∧ w'.cell? ⟨w.heap.size, 7, none⟩ = some (.int .i64 sv) ∧ w'.cell? ⟨w.heap.size, 8, none⟩ = some (.string le))
    (refine ⟨?_, ?_, ?_, ?_, ?_, ?_, ?_, ?_, ?_, ?_⟩ <;> (first | assumption | exact Below.drew (by assumption) | go_keep))
    (first
      | (go_at_call 37; refine (rulesBegun_any _).mono ?_; rintro e w4 ⟨rfl, hb4⟩; have hb5 : Below (w.heap.size + 1) (w.alloc (.cells #[.int .i64 fy, .int .i64 ty, .int .i64 mo, .int .i64 k, .int .i64 wk, .int .i64 d, .int .i64 a, .int .i64 sv, .string le] 54)) w4 := box9_step (by assumption) hb4; obtain ⟨g0, g1, g2, g3, g4, g5, g6, g7, g8⟩ := box9 hb5)
      | (go_at_call 38; refine (RC.out _).mono ?_; rintro e w4 ⟨rfl, hb4⟩; have hb5 : Below (w.heap.size + 1) (w.alloc (.cells #[.int .i64 fy, .int .i64 ty, .int .i64 mo, .int .i64 k, .int .i64 wk, .int .i64 d, .int .i64 a, .int .i64 sv, .string le] 54)) w4 := box9_step (by assumption) hb4; obtain ⟨g0, g1, g2, g3, g4, g5, g6, g7, g8⟩ := box9 hb5)
      | (go_at_call 39; refine (RR.out _).mono ?_; rintro e w4 ⟨rfl, hb4⟩; have hb5 : Below (w.heap.size + 1) (w.alloc (.cells #[.int .i64 fy, .int .i64 ty, .int .i64 mo, .int .i64 k, .int .i64 wk, .int .i64 d, .int .i64 a, .int .i64 sv, .string le] 54)) w4 := box9_step (by assumption) hb4; obtain ⟨g0, g1, g2, g3, g4, g5, g6, g7, g8⟩ := box9 hb5))
  go_wp2
  go_ret
  exact ⟨rfl, box_below hb5⟩

set_option maxRecDepth 100000 in
set_option maxHeartbeats 4000000 in
theorem rulesLast_walk (A : Option Addr) (n cap : Nat) (rs : List Rl) (std t : Int) (w : World) (hR : RulesAt w w.heap.size A n rs) :
    Calls Try.prog 12 #[.slice A n cap, .int .i64 std, .int .i64 t] w fun e w' => e = .returned (.bool true) ∧ Below w.heap.size w w' := by
  have LP := Lib.hid (fun w h => lastP_any A n cap rs std t w h)
  have LO := Lib.hid (fun w h => lastOf_any A n cap rs std t w h)
  have HR := Lib.hid hR
  clear hR
  go_enter Try.func12, Try.ntmps12
  go_wp2_with fail
  refine (LP.out _ HR.out).mono ?_
  rintro e w1 ⟨rfl, hb1⟩
  go_wp2_with fail
  refine (LO.out _ ((HR.out.below hb1 (Nat.le_refl _)).more hb1.size)).mono ?_
  rintro e w2 ⟨rfl, hb2⟩
  have h2 : Below w.heap.size w w2 := hb1.trans (hb2.mono hb1.size)
  clear hb1 hb2
  go_wp2_with fail
  refine (rulesBegun_any _).mono ?_
  rintro e w3 ⟨rfl, hb3⟩
  have h3 : Below w.heap.size w w3 := h2.trans (hb3.mono h2.size)
  go_wp2
  go_ret
  exact ⟨rfl, h3⟩
end Go.Proofs.Ytlmphmfadikdpaa
