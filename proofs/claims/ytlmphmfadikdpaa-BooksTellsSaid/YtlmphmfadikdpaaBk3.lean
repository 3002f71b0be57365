/- The walk of books.Check's second closure. -/
import Derived.Test.YtlmphmfadikdpaaBk2
set_option linter.unusedVariables false
namespace Go.Proofs.Ytlmphmfadikdpaa
open Go.RowKit Gno
theorem badPair_any (p : Pr) (w : World) (hk : p.key.size ≤ maxLen) :
    Calls Try.prog 60 #[.agg #[.string p.key, .string p.text]] w fun e w' => e = .returned (.bool (badPair p)) ∧ Below w.heap.size w w' := by
  have C := Lib.hid (fun w => name_any p.key w hk)
  have HB : Hid (∀ w1, Below (w.alloc (.cells #[.string p.key, .string p.text] 51)).heap.size (w.alloc (.cells #[.string p.key, .string p.text] 51)) w1 → Below w.heap.size w w1 ∧ w1.cell? ⟨w.heap.size, 1, none⟩ = some (.string p.text)) := Lib.hid (fun w1 hb1 =>
    ⟨((Below.refl _ _).alloc (Nat.le_refl _) _).trans (hb1.mono (by simp)), (hb1.cell (by simp)).trans (by first | (simp [go_sem]; done) | go_simp)⟩)
  clear hk
  obtain ⟨b, hb⟩ : ∃ b, nameOk p.key = b := ⟨_, rfl⟩
  simp only [hb] at C
  cases b
  all_goals
    go_enter Try.func60, Try.ntmps60
    go_wp2_with (go_at_call 58; (with_reducible refine (C.out _).mono ?_); rintro e w1 ⟨rfl, hb1⟩; obtain ⟨h1, g1⟩ := HB.out _ hb1; clear hb1)
    go_ret
    exact ⟨ret_bool (by rw [Bool.eq_iff_iff]; simp [badPair, hb]; try omega), h1⟩
end Go.Proofs.Ytlmphmfadikdpaa
