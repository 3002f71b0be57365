/- Offsets as text: Read. -/
import Derived.Test.YtbbbeldbhlehnaaGreatDoorMUNmTl13
set_option linter.unusedSimpArgs false
set_option linter.unusedVariables false
/-! Offsets as text: Read. -/
section
set_option linter.unusedVariables false
set_option linter.unusedSimpArgs false
set_option maxRecDepth 100000
namespace Go.Proofs.YtbbbeldbhlehnaaGreatDoor
open Go.RowKit Gno Go.Maps
theorem read_style (k : Int) (t z a : ByteArray) (f : Nat) (S : Style k a z f) (w : World) (hm : OMet w) : Calls Tryz.prog 22 #[.int .i64 k, .string t] w fun e w' => e = .returned (.tuple #[.int .i64 (readN k t), .int .i64 (readE k t)]) ∧ Below w.heap.size w w' := by
  by_cases hzt : ¬ z = ⟨#[]⟩ ∧ t = z
  · exact readW_zero k t z a f S hzt.1 hzt.2 w
  · have hz : z = ⟨#[]⟩ ∨ ¬ t = z := by
      by_cases h : z = ⟨#[]⟩
      · exact .inl h
      · exact .inr fun e => hzt ⟨h, e⟩
    obtain ⟨r, hr⟩ : ∃ r, r = B (Lib.trimPrefix t.data.toList (aheadL k)) := ⟨_, rfl⟩
    cases hp : Lib.hasPrefix t.data.toList (aheadL k)
    · exact readW_bad k t z a f S hz r hr false hp.symm (.inl rfl) w
    · by_cases hs : r.size < 2 ∨ 6 < r.size
      · exact readW_bad k t z a f S hz r hr true hp.symm (.inr hs) w
      · obtain ⟨is, hi⟩ : ∃ x, x = (Lib.cut r.data.toList.tail [58]).2.2 := ⟨_, rfl⟩
        obtain ⟨h0, hh0⟩ : ∃ x, x = B (Lib.cut r.data.toList.tail [58]).1 := ⟨_, rfl⟩
        obtain ⟨m0, hm0⟩ : ∃ x, x = B (Lib.cut r.data.toList.tail [58]).2.1 := ⟨_, rfl⟩
        have hc : Lib.cut r.data.toList.tail [58] = (h0.data.toList, m0.data.toList, is) := by rw [hh0, hm0, hi, B_toList, B_toList]
        by_cases hi : is = true
        · exact readW_a k t z a f S hz r hr hp (by omega) (by omega) h0 m0 is hc hi w hm
        · have hi0 : is = false := by cases is; rfl; exact absurd rfl hi
          by_cases hk1 : k = 1
          · by_cases h4 : h0.size = 4
            · exact readW_d k t z a f S hz r hr hp (by omega) (by omega) h0 m0 is hc ⟨hi0, hk1, h4⟩ w hm
            · exact readW_c k t z a f S hz r hr hp (by omega) (by omega) h0 m0 is hc hi0 hk1 h4 w hm
          · exact readW_b k t z a f S hz r hr hp (by omega) (by omega) h0 m0 is hc hi0 hk1 w hm
theorem read_any (k : Int) (t : ByteArray) (hw : (Lit.int .i64 k).wf = true) (w : World) (hm : OMet w) : Calls Tryz.prog 22 #[.int .i64 k, .string t] w fun e w' => e = .returned (.tuple #[.int .i64 (readN k t), .int .i64 (readE k t)]) ∧ Below w.heap.size w w' := by
  cases hk : kindB k
  · exact readW_kind k t hw hk w
  · have h := kindB_iff.1 hk
    have hx : k = 1 ∨ k = 2 ∨ k = 3 ∨ k = 4 := by omega
    rcases hx with rfl | rfl | rfl | rfl
    · exact read_style 1 t ⟨#[]⟩ ⟨#[]⟩ _ ⟨hk, rfl, rfl, fun w1 b h => look_1 h⟩ w hm
    · exact read_style 2 t ⟨#[90]⟩ ⟨#[]⟩ _ ⟨hk, rfl, rfl, fun w1 b h => look_2 h⟩ w hm
    · exact read_style 3 t ⟨#[71, 77, 84]⟩ ⟨#[71, 77, 84]⟩ _ ⟨hk, rfl, rfl, fun w1 b h => look_3 h⟩ w hm
    · exact read_style 4 t ⟨#[71, 77, 84]⟩ ⟨#[71, 77, 84]⟩ _ ⟨hk, rfl, rfl, fun w1 b h => look_4 h⟩ w hm
end Go.Proofs.YtbbbeldbhlehnaaGreatDoor
end
