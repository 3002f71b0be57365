/- The walk of PickTells. -/
import Derived.Test.YtlmphmfadikdpaaPick5
namespace Go.Proofs.Ytlmphmfadikdpaa
open Go.RowKit Gno
attribute [local go_sem ↓] Go.wp_at_zero Go.wp_at_succ

theorem box_step {w W w4 : World} {o : Obj} {A : Prop} (h : Below (w.heap.size + 1) (w.alloc o) W ∧ A) (h4 : Below W.heap.size W w4) : Below (w.heap.size + 1) (w.alloc o) w4 := h.1.trans (h4.mono (box_le h.1))

set_option maxRecDepth 100000 in
set_option maxHeartbeats 4000000 in
theorem pickTells_walk (y m k wk d : Int) (w : World) :
    Calls Try.prog 6 #[.int .i64 y, .int .i64 m, .agg #[.int .i64 k, .int .i64 wk, .int .i64 d]] w fun e w' => e = .returned (.bool true) ∧ Below w.heap.size w w' := by
  go_enter Try.func6, Try.ntmps6
  go_wp2_with (first
    | (go_at_call 24; refine (find_any _ _ _ _ _ _).mono ?_; rintro e w1 ⟨rfl, hb1⟩; simp only [World.size_alloc] at hb1; obtain ⟨c0, c1, c2⟩ := box_cells hb1)
    | (go_at_call 25; refine (findOf_any _ _ _ _ _ _).mono ?_; rintro e w2 ⟨rfl, hb2⟩; have hb3 := hb1.trans (hb2.mono (box_le hb1)); clear hb1 hb2 c0 c1 c2; obtain ⟨c0, c1, c2⟩ := box_cells hb3))
  go_region_held3 (fun w' => Below (w.heap.size + 1) (w.alloc (.cells #[.int .i64 k, .int .i64 wk, .int .i64 d] 36)) w' ∧ w'.cell? ⟨w.heap.size, 0, none⟩ = some (.int .i64 k) ∧ w'.cell? ⟨w.heap.size, 1, none⟩ = some (.int .i64 wk) ∧ w'.cell? ⟨w.heap.size, 2, none⟩ = some (.int .i64 d))
    (refine ⟨?_, ?_, ?_, ?_⟩ <;> (first | assumption | exact Below.drew (by assumption) | go_keep))
    (first
      | (go_at_call 26; refine (pickBegun_any _).mono ?_; rintro e w4 ⟨rfl, hb4⟩; have hb5 : Below (w.heap.size + 1) (w.alloc (.cells #[.int .i64 k, .int .i64 wk, .int .i64 d] 36)) w4 := box_step (by assumption) hb4; obtain ⟨g0, g1, g2⟩ := box_cells hb5)
      | (go_at_call 27; refine (pcheck_any _ _ _ _).mono ?_; rintro e w4 ⟨rfl, hb4⟩; have hb5 : Below (w.heap.size + 1) (w.alloc (.cells #[.int .i64 k, .int .i64 wk, .int .i64 d] 36)) w4 := box_step (by assumption) hb4; obtain ⟨g0, g1, g2⟩ := box_cells hb5)
      | (go_at_call 28; refine (checkOn_any _ _ _ _).mono ?_; rintro e w4 ⟨rfl, hb4⟩; have hb5 : Below (w.heap.size + 1) (w.alloc (.cells #[.int .i64 k, .int .i64 wk, .int .i64 d] 36)) w4 := box_step (by assumption) hb4; obtain ⟨g0, g1, g2⟩ := box_cells hb5))
  go_wp2
  go_ret
  exact ⟨rfl, box_below hb5⟩
end Go.Proofs.Ytlmphmfadikdpaa
