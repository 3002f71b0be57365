/- Offsets as text: the walks of OffsTells and OffsBack. -/
import Derived.Test.YtggepbkhhnhnkaaDoorOfF
set_option linter.unusedVariables false
set_option linter.unusedSimpArgs false
namespace Go.Proofs.YtggepbkhhnhnkaaDoor
open Go.RowKit Gno Go.Maps
set_option maxHeartbeats 4000000 in
theorem offsTells_walk (k n : Int) (s : ByteArray) (hw : (Lit.int .i64 k).wf = true) (w : World) (hm : OMet w) : Calls Tryd.prog 3 #[.int .i64 k, .int .i64 n, .string s] w fun e w' => e = .returned (.bool true) ∧ Below w.heap.size w w' := by
  obtain ⟨T, hT⟩ : ∃ T, T = showT k n := ⟨_, rfl⟩
  obtain ⟨F, hF⟩ : ∃ F, F = showE k n := ⟨_, rfl⟩
  obtain ⟨N, hN⟩ : ∃ N, N = readN k s := ⟨_, rfl⟩
  obtain ⟨E, hE⟩ : ∃ E, E = readE k s := ⟨_, rfl⟩
  have A : Hid (∀ w, Calls Tryd.prog 6 #[.int .i64 k, .int .i64 n] w fun e w' => e = .returned (.tuple #[.string T, .int .i64 F]) ∧ Below w.heap.size w w') := Lib.hid fun w => by rw [hT, hF]; exact show_any k n hw w
  have B : Hid (∀ w, OMet w → Calls Tryd.prog 7 #[.int .i64 k, .string s] w fun e w' => e = .returned (.tuple #[.int .i64 N, .int .i64 E]) ∧ Below w.heap.size w w') := Lib.hid fun w hm => by rw [hN, hE]; exact read_any k s hw w hm
  have C : Hid (∀ w, Calls Tryd.prog 8 #[.int .i64 k, .int .i64 n] w fun e w' => e = .returned (.tuple #[.string T, .int .i64 F]) ∧ Below w.heap.size w w') := Lib.hid fun w => by rw [hT, hF]; exact textR_any k n w
  have D : Hid (∀ w, Calls Tryd.prog 9 #[.int .i64 k, .string s] w fun e w' => e = .returned (.tuple #[.int .i64 N, .int .i64 E]) ∧ Below w.heap.size w w') := Lib.hid fun w => by rw [hN, hE]; exact fromR_any k s w
  have G := Lib.hid (fun w hm => offsBegun_any w hm)
  have HM := Lib.hid hm
  clear hm hT hF hN hE
  go_enter Tryd.func3, Tryd.ntmps3
  go_wp2_with fail
  refine (A.out _).mono ?_
  rintro e w1 ⟨rfl, h1⟩
  go_wp2_with fail
  refine (B.out _ (HM.out.below h1)).mono ?_
  rintro e w2 ⟨rfl, h2⟩
  replace h2 := h1.trans (h2.mono h1.size)
  clear h1
  go_wp2_with fail
  refine (C.out _).mono ?_
  rintro e w3 ⟨rfl, h3⟩
  replace h3 := h2.trans (h3.mono h2.size)
  clear h2
  go_wp2_with fail
  refine (D.out _).mono ?_
  rintro e w4 ⟨rfl, h4⟩
  replace h4 := h3.trans (h4.mono h3.size)
  clear h3
  go_wp2_with fail
  refine (G.out _ (HM.out.below h4)).mono ?_
  rintro e w5 ⟨rfl, h5⟩
  replace h5 := h4.trans (h5.mono h4.size)
  clear h4
  go_wp2
  go_ret
  exact ⟨rfl, h5⟩
/-- the law's last third: what is read is what is shown. -/
def BackP (k : Int) (s : ByteArray) (N E : Int) : Prop := N = readN k s ∧ E = readE k s
set_option maxHeartbeats 4000000 in
theorem offsBack_walk (k n m : Int) (s : ByteArray) (hw : (Lit.int .i64 k).wf = true) (w : World) (hm : OMet w) : Calls Tryd.prog 4 #[.int .i64 k, .int .i64 n, .int .i64 m, .string s] w fun e w' => e = .returned (.bool true) ∧ Below w.heap.size w w' := by
  obtain ⟨T, hT⟩ : ∃ T, T = showT k n := ⟨_, rfl⟩
  obtain ⟨F, hF⟩ : ∃ F, F = showE k n := ⟨_, rfl⟩
  obtain ⟨U, hU⟩ : ∃ U, U = showT k m := ⟨_, rfl⟩
  obtain ⟨V, hV⟩ : ∃ V, V = showE k m := ⟨_, rfl⟩
  obtain ⟨N, hN⟩ : ∃ N, N = readN k s := ⟨_, rfl⟩
  obtain ⟨E, hE⟩ : ∃ E, E = readE k s := ⟨_, rfl⟩
  have A1 : Hid (∀ w, Calls Tryd.prog 6 #[.int .i64 k, .int .i64 n] w fun e w' => e = .returned (.tuple #[.string T, .int .i64 F]) ∧ Below w.heap.size w w') := Lib.hid fun w => by rw [hT, hF]; exact show_any k n hw w
  have A2 : Hid (∀ w, Calls Tryd.prog 6 #[.int .i64 k, .int .i64 m] w fun e w' => e = .returned (.tuple #[.string U, .int .i64 V]) ∧ Below w.heap.size w w') := Lib.hid fun w => by rw [hU, hV]; exact show_any k m hw w
  have B : Hid (∀ w, OMet w → Calls Tryd.prog 7 #[.int .i64 k, .string s] w fun e w' => e = .returned (.tuple #[.int .i64 N, .int .i64 E]) ∧ Below w.heap.size w w') := Lib.hid fun w hm => by rw [hN, hE]; exact read_any k s hw w hm
  have G := Lib.hid (fun w hm => offsBegun_any w hm)
  have HM := Lib.hid hm
  have hE01 : E = 0 ∨ ¬ E = 0 := Classical.em _
  have HZ : Hid (E = 0 → ∀ w, Calls Tryd.prog 6 #[.int .i64 k, .int .i64 N] w fun e w' => e = .returned (.tuple #[.string s, .int .i64 0]) ∧ Below w.heap.size w w') := Lib.hid fun h w => by
    have h1 := read_zero (hE.symm.trans h)
    rw [← hN] at h1
    have := show_any k N hw w
    rwa [h1.1, h1.2] at this
  by_cases hF0 : F = 0
  · have htl : Tells k T n := ⟨hF.symm.trans hF0, hT.symm⟩
    have B2 : Hid (∀ w, OMet w → Calls Tryd.prog 7 #[.int .i64 k, .string T] w fun e w' => e = .returned (.tuple #[.int .i64 n, .int .i64 0]) ∧ Below w.heap.size w w') := Lib.hid fun w hm => by
      have := read_any k T hw w hm
      rwa [(read_yes htl).1, (read_yes htl).2] at this
    have hx : ¬ V = 0 ∨ (V = 0 ∧ (T.toList == U.toList) = true ∧ (n == m) = true) ∨ (V = 0 ∧ (T.toList == U.toList) = false ∧ (n == m) = false) := by
      by_cases hV0 : V = 0
      · by_cases hnm : n = m
        · exact .inr (.inl ⟨hV0, same_yes (by rw [hT, hU, hnm]), beq_iff_eq.2 hnm⟩)
        · refine .inr (.inr ⟨hV0, same_no fun e => ?_, beq_eq_false_iff_ne.2 hnm⟩)
          have h2 : Tells k T m := ⟨hV.symm.trans hV0, hU.symm.trans e.symm⟩
          exact hnm (tells_uniq htl h2)
      · exact .inl hV0
    clear hm hT hU hN hE htl hF hV
    subst hF0
    rcases hx with hx | ⟨rfl, hx1, hx2⟩ | ⟨rfl, hx1, hx2⟩
    all_goals
      rcases hE01 with rfl | hE0
      · go_enter Tryd.func4, Tryd.ntmps4
        go_wp2_with fail
        refine (A1.out _).mono ?_
        rintro e w1 ⟨rfl, h1⟩
        go_wp2_with fail
        refine (A2.out _).mono ?_
        rintro e w2 ⟨rfl, h2⟩
        replace h2 := h1.trans (h2.mono h1.size)
        clear h1
        go_wp2_with fail
        refine (B2.out _ (HM.out.below h2)).mono ?_
        rintro e w3 ⟨rfl, h3⟩
        replace h3 := h2.trans (h3.mono h2.size)
        clear h2
        go_wp2_with fail
        refine (B.out _ (HM.out.below h3)).mono ?_
        rintro e w4 ⟨rfl, h4⟩
        replace h4 := h3.trans (h4.mono h3.size)
        clear h3
        go_wp2_with fail
        refine (HZ.out (by first | rfl | trivial) _).mono ?_
        rintro e w5 ⟨rfl, h5⟩
        replace h5 := h4.trans (h5.mono h4.size)
        clear h4
        go_wp2_with fail
        refine (G.out _ (HM.out.below h5)).mono ?_
        rintro e w6 ⟨rfl, h6⟩
        replace h6 := h5.trans (h6.mono h5.size)
        clear h5
        go_wp2
        go_ret
        exact ⟨rfl, h6⟩
      · go_enter Tryd.func4, Tryd.ntmps4
        go_wp2_with fail
        refine (A1.out _).mono ?_
        rintro e w1 ⟨rfl, h1⟩
        go_wp2_with fail
        refine (A2.out _).mono ?_
        rintro e w2 ⟨rfl, h2⟩
        replace h2 := h1.trans (h2.mono h1.size)
        clear h1
        go_wp2_with fail
        refine (B2.out _ (HM.out.below h2)).mono ?_
        rintro e w3 ⟨rfl, h3⟩
        replace h3 := h2.trans (h3.mono h2.size)
        clear h2
        go_wp2_with fail
        refine (B.out _ (HM.out.below h3)).mono ?_
        rintro e w4 ⟨rfl, h4⟩
        replace h4 := h3.trans (h4.mono h3.size)
        clear h3
        go_wp2_with fail
        refine (G.out _ (HM.out.below h4)).mono ?_
        rintro e w6 ⟨rfl, h6⟩
        replace h6 := h4.trans (h6.mono h4.size)
        clear h4
        go_wp2
        go_ret
        exact ⟨rfl, h6⟩
  · clear hm hT hU hN hE hF hV
    rcases hE01 with rfl | hE0
    · go_enter Tryd.func4, Tryd.ntmps4
      go_wp2_with fail
      refine (A1.out _).mono ?_
      rintro e w1 ⟨rfl, h1⟩
      go_wp2_with fail
      refine (A2.out _).mono ?_
      rintro e w2 ⟨rfl, h2⟩
      replace h3 := h1.trans (h2.mono h1.size)
      clear h1 h2
      go_wp2_with fail
      refine (B.out _ (HM.out.below h3)).mono ?_
      rintro e w4 ⟨rfl, h4⟩
      replace h4 := h3.trans (h4.mono h3.size)
      clear h3
      go_wp2_with fail
      refine (HZ.out (by first | rfl | trivial) _).mono ?_
      rintro e w5 ⟨rfl, h5⟩
      replace h5 := h4.trans (h5.mono h4.size)
      clear h4
      go_wp2_with fail
      refine (G.out _ (HM.out.below h5)).mono ?_
      rintro e w6 ⟨rfl, h6⟩
      replace h6 := h5.trans (h6.mono h5.size)
      clear h5
      go_wp2
      go_ret
      exact ⟨rfl, h6⟩
    · go_enter Tryd.func4, Tryd.ntmps4
      go_wp2_with fail
      refine (A1.out _).mono ?_
      rintro e w1 ⟨rfl, h1⟩
      go_wp2_with fail
      refine (A2.out _).mono ?_
      rintro e w2 ⟨rfl, h2⟩
      replace h3 := h1.trans (h2.mono h1.size)
      clear h1 h2
      go_wp2_with fail
      refine (B.out _ (HM.out.below h3)).mono ?_
      rintro e w4 ⟨rfl, h4⟩
      replace h4 := h3.trans (h4.mono h3.size)
      clear h3
      go_wp2_with fail
      refine (G.out _ (HM.out.below h4)).mono ?_
      rintro e w6 ⟨rfl, h6⟩
      replace h6 := h4.trans (h6.mono h4.size)
      clear h4
      go_wp2
      go_ret
      exact ⟨rfl, h6⟩
end Go.Proofs.YtggepbkhhnhnkaaDoor
