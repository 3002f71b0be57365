/- Offsets as text: the reference's OffFrom; what must be in any case. -/
import Derived.Test.YtggepbkhhnhnkaaDoorOfY
set_option linter.unusedVariables false
set_option linter.unusedSimpArgs false
namespace Go.Proofs.YtggepbkhhnhnkaaDoor
open Go.RowKit Gno Go.Maps
set_option maxHeartbeats 4000000 in
theorem fromR_any (k : Int) (t : ByteArray) (w : World) : Calls Tryd.prog 9 #[.int .i64 k, .string t] w fun e w' => e = .returned (.tuple #[.int .i64 (readN k t), .int .i64 (readE k t)]) ∧ Below w.heap.size w w' := by
  have C := Lib.hid (fun w => withinO_any k 1 4 w)
  cases hk : kindB k
  · rw [show decide (1 ≤ k ∧ k ≤ 4) = false by unfold kindB at hk; exact hk] at C
    rw [(read_kind t hk).1, (read_kind t hk).2]
    go_enter Tryd.func9, Tryd.ntmps9
    go_wp2_with (go_at_call 15; (with_reducible refine (C.out _).mono ?_); rintro e w1 ⟨rfl, rfl⟩)
    go_ret2
    exact ⟨rfl, Below.refl _ _⟩
  · rw [show decide (1 ≤ k ∧ k ≤ 4) = true by unfold kindB at hk; exact hk] at C
    by_cases ht : 10 < t.size
    · have hno := read_no (s := t) hk fun n hn => by
        have h1 := hn.2
        have h2 := showT_size k n
        rw [h1] at h2
        omega
      rw [hno.1, hno.2]
      go_enter Tryd.func9, Tryd.ntmps9
      go_wp2_with (go_at_call 15; (with_reducible refine (C.out _).mono ?_); rintro e w1 ⟨rfl, rfl⟩)
      go_ret2
      exact ⟨rfl, Below.refl _ _⟩
    · have CT := Lib.hid (fun n w => textR_any k n w)
      obtain ⟨N, hN⟩ : ∃ N, N = readN k t := ⟨_, rfl⟩
      obtain ⟨E, hE⟩ : ∃ E, E = readE k t := ⟨_, rfl⟩
      have HN := Lib.hid hN
      have HE := Lib.hid hE
      have HK := Lib.hid hk
      rw [← hN, ← hE]
      clear hN hE hk
      go_enter Tryd.func9, Tryd.ntmps9
      go_wp2_with (go_at_call 15; (with_reducible refine (C.out _).mono ?_); rintro e w1 ⟨rfl, rfl⟩)
      clear C
      go_loopw [6] (fun s6 wr => ∃ i : Nat, i ≤ 1921 ∧ s6 = .int .i64 (60 * (i : Int) - 57600) ∧ Hid (∀ j : Nat, j < i → showT k (60 * (j : Int) - 57600) ≠ t) ∧ Below w.heap.size w wr) (fun s6 _ => (57660 - intOf s6).toNat)
      case atStart => exact ⟨0, by omega, rfl, Lib.hid (fun j h => absurd h (by omega)), Below.refl _ _⟩
      case round =>
        obtain ⟨i, hi, rfl, hI, hb⟩ := hrel
        obtain ⟨v, hv⟩ : ∃ v : Int, v = 60 * (i : Int) - 57600 := ⟨_, rfl⟩
        have HV := Lib.hid hv
        have hv0 : -57600 ≤ v := by omega
        have hv1 : v ≤ 57660 := by omega
        rw [← hv]
        by_cases hlt : v ≤ 57600
        · have hi2 : i < 1921 := by omega
          obtain ⟨T, hT⟩ : ∃ T, T = showT k v := ⟨_, rfl⟩
          obtain ⟨F, hF⟩ : ∃ F, F = showE k v := ⟨_, rfl⟩
          have D : Hid (∀ w, Calls Tryd.prog 8 #[.int .i64 k, .int .i64 v] w fun e w' => e = .returned (.tuple #[.string T, .int .i64 F]) ∧ Below w.heap.size w w') := Lib.hid fun w => by rw [hT, hF]; exact CT.out v w
          by_cases hs : T = t
          · have hx := same_yes hs
            have HX : Hid (v = N ∧ 0 = E) := Lib.hid (by
              have h1 : Tells k t v := ⟨(showE_ok HK.out (by rw [offOk_iff]; omega)).1, by rw [← hT]; exact hs⟩
              exact ⟨by rw [HN.out, (read_yes h1).1], by rw [HE.out, (read_yes h1).2]⟩)
            clear hT hF hI hs hv
            go_wp2_with (go_at_call 8; (with_reducible refine (D.out _).mono ?_); rintro e w2 ⟨rfl, hb2⟩)
            go_ret2
            refine ⟨?_, hb.trans (hb2.mono hb.size)⟩
            rw [← HX.out.1, ← HX.out.2]
            rfl
          · have hx := same_no hs
            have HX : Hid (∀ j : Nat, j < i + 1 → showT k (60 * (j : Int) - 57600) ≠ t) := Lib.hid (fun j hj => by
              by_cases e : j = i
              · rw [e, ← HV.out, ← hT]; exact hs
              · exact hI.out j (by omega))
            clear hT hF hI hs hv
            go_wp2_with (go_at_call 8; (with_reducible refine (D.out _).mono ?_); rintro e w2 ⟨rfl, hb2⟩)
            go_roundw
            case rel => exact ⟨i + 1, by omega, by rw [HV.out]; simp; omega, HX, hb.trans (hb2.mono hb.size)⟩
            case measure => simp [intOf]; omega
        · have HX : Hid (0 = N ∧ 1 = E) := Lib.hid (by
            have h1 := read_tried (s := t) HK.out (fun j hj => hI.out j (by omega))
            exact ⟨by rw [HN.out, h1.1], by rw [HE.out, h1.2]⟩)
          clear hI hv
          go_wp2
          go_ret2
          refine ⟨?_, hb⟩
          rw [← HX.out.1, ← HX.out.2]
          rfl
theorem begun_a : showT 1 (-5400) = ⟨#[45, 48, 49, 51, 48]⟩ ∧ showE 1 (-5400) = 0 := ⟨by kernel_rfl, by kernel_rfl⟩
theorem begun_b : showT 3 7200 = ⟨#[71, 77, 84, 43, 50]⟩ ∧ showE 3 7200 = 0 := ⟨by kernel_rfl, by kernel_rfl⟩
theorem begun_c : showT 4 (-1800) = ⟨#[71, 77, 84, 45, 48, 48, 58, 51, 48]⟩ ∧ showE 4 (-1800) = 0 := ⟨by kernel_rfl, by kernel_rfl⟩
theorem begun_d : showT 2 0 = ⟨#[90]⟩ ∧ showE 2 0 = 0 := ⟨by kernel_rfl, by kernel_rfl⟩
theorem begun_e : readN 3 ⟨#[71, 77, 84, 45, 48, 58, 51, 48]⟩ = -1800 ∧ readE 3 ⟨#[71, 77, 84, 45, 48, 58, 51, 48]⟩ = 0 := read_yes ⟨by kernel_rfl, by kernel_rfl⟩
theorem begun_f : readN 3 ⟨#[71, 77, 84, 43, 48]⟩ = 0 ∧ readE 3 ⟨#[71, 77, 84, 43, 48]⟩ = 1 := read_other (p := 0) (by decide) (by kernel_rfl) fun h => by
  have h2 := h.2
  rw [show showT 3 0 = ⟨#[71, 77, 84]⟩ by kernel_rfl] at h2
  have := congrArg ByteArray.size h2
  simp [ByteArray.size] at this
theorem show_at (k n : Int) (T : ByteArray) (hw : (Lit.int .i64 k).wf = true) (h : showT k n = T ∧ showE k n = 0) (w : World) : Calls Tryd.prog 6 #[.int .i64 k, .int .i64 n] w fun e w' => e = .returned (.tuple #[.string T, .int .i64 0]) ∧ Below w.heap.size w w' := by
  have := show_any k n hw w
  rwa [h.1, h.2] at this
theorem read_at (k : Int) (t : ByteArray) (N E : Int) (hw : (Lit.int .i64 k).wf = true) (h : readN k t = N ∧ readE k t = E) (w : World) (hm : OMet w) : Calls Tryd.prog 7 #[.int .i64 k, .string t] w fun e w' => e = .returned (.tuple #[.int .i64 N, .int .i64 E]) ∧ Below w.heap.size w w' := by
  have := read_any k t hw w hm
  rwa [h.1, h.2] at this
set_option maxHeartbeats 4000000 in
theorem offsBegun_any (w : World) (hm : OMet w) : Calls Tryd.prog 10 #[] w fun e w' => e = .returned (.bool true) ∧ Below w.heap.size w w' := by
  have A := Lib.hid (fun w => show_at 1 (-5400) _ (by decide) begun_a w)
  have B := Lib.hid (fun w => show_at 3 7200 _ (by decide) begun_b w)
  have C := Lib.hid (fun w => show_at 4 (-1800) _ (by decide) begun_c w)
  have D := Lib.hid (fun w => show_at 2 0 _ (by decide) begun_d w)
  have E := Lib.hid (fun w hm => read_at 3 _ _ _ (by decide) begun_e w hm)
  have F := Lib.hid (fun w hm => read_at 3 _ _ _ (by decide) begun_f w hm)
  have HM := Lib.hid hm
  clear hm
  go_enter Tryd.func10, Tryd.ntmps10
  go_wp2_with fail
  refine (A.out _).mono ?_
  rintro e w1 ⟨rfl, h1⟩
  go_wp2_with fail
  refine (B.out _).mono ?_
  rintro e w2 ⟨rfl, h2⟩
  replace h2 := h1.trans (h2.mono h1.size)
  clear h1
  go_wp2_with fail
  refine (C.out _).mono ?_
  rintro e w3 ⟨rfl, h3⟩
  replace h3 := h2.trans (h3.mono h2.size)
  clear h2
  go_wp2_with fail
  refine (D.out _).mono ?_
  rintro e w4 ⟨rfl, h4⟩
  replace h4 := h3.trans (h4.mono h3.size)
  clear h3
  go_wp2_with fail
  refine (E.out _ (HM.out.below h4)).mono ?_
  rintro e w5 ⟨rfl, h5⟩
  replace h5 := h4.trans (h5.mono h4.size)
  clear h4
  go_wp2_with fail
  refine (F.out _ (HM.out.below h5)).mono ?_
  rintro e w6 ⟨rfl, h6⟩
  replace h6 := h5.trans (h6.mono h5.size)
  clear h5
  go_wp2
  go_ret
  exact ⟨rfl, h6⟩
end Go.Proofs.YtggepbkhhnhnkaaDoor
