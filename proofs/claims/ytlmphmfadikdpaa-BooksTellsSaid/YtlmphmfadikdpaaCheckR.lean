/- The walk of the reference's CheckBooks. -/
import Derived.Test.YtlmphmfadikdpaaApp
import Derived.Deep.QuietTactic
import Derived.BigQuiet
set_option linter.unusedVariables false
namespace Go.Proofs.Ytlmphmfadikdpaa
open Go.RowKit Gno
theorem fallAt_succ {ps : List Pr} {j : Nat} {a b : Pr} (h1 : ps[j]? = some a) (h2 : ps[j + 1]? = some b) : fallAt ps (j + 1) = !lessB a.key b.key := by simp only [fallAt, h1, h2]
theorem dlt (a b : Nat) : decide ((a : Int) < (b : Int)) = decide (a < b) := by rw [Bool.eq_iff_iff]; simp

set_option maxRecDepth 100000 in
set_option maxHeartbeats 8000000 in
theorem checkR_any (A : Option Addr) (n cap : Nat) (bs : List Bk) (w : World) (hR : BooksAt w w.heap.size A n bs) :
    Calls Try.prog 34 #[.slice A n cap] w fun e w' => e = .returned (.int .i64 (booksE bs)) ∧ Below w.heap.size w w' := by
  have hn : n ≤ 9223372036854775807 := hR.2.1
  have hlen := hR.1
  have HLE := Lib.hid hlen
  clear hlen
  have HR := Lib.hid hR
  clear hR
  by_cases h4 : 4 < n
  · have HX := Lib.hid (booksE_long (bs := bs) (by rw [HLE.out]; exact h4))
    go_enter Try.func34, Try.ntmps34
    go_wp2
    go_ret
    exact ⟨ret_int HX.out.symm, Below.refl _ _⟩
  have h4b : decide ((4 : Int) < (n : Int)) = false := by simp; omega
  have HL4 := Lib.hid (show ¬ 4 < bs.length by rw [HLE.out]; exact h4)
  go_enter Try.func34, Try.ntmps34
  go_wp2
  go_loopw [3, 4] (fun b3 b4 wr => ∃ i : Nat, i ≤ n ∧ b4 = .int .i64 i ∧ Hid (anyTo (atI (fun _ => manyPairs) bs) i = false) ∧ wr.ownsRow w.heap.size 9 1 b3 i (strs (locs (bs.take i))) ∧ Below w.heap.size w wr) (fun _ b4 _ => n - (intOf b4).toNat)
  case atStart => exact ⟨0, Nat.zero_le _, rfl, Lib.hid rfl, World.ownsRow_nil _ _ _ _, Below.refl _ _⟩
  case round =>
    obtain ⟨i, hi, rfl, hfd, hown, hb⟩ := hrel
    by_cases hlt : i < n
    · obtain ⟨b, o, q, rfl, hbB, hq, hq1, hq2⟩ := HR.out.get hlt
      obtain ⟨e0, e1, e2⟩ := (hq2 _ hb).1
      have HB := Lib.hid hq2
      have HQ := Lib.hid hq
      clear hq hq2
      cases hm : manyPairs q
      · have hm' : decide ((8 : Int) < (q.n : Int)) = false := (dlt 8 _).trans hm
        have HX := Lib.hid (anyI_no (p := fun _ => manyPairs) HQ.out hfd.out hm)
        have HS := Lib.hid (locs_snoc HQ.out)
        clear hfd hm hq1
        go_wp2_with (at_builtin; go_must (refine wpList_app hb hb.size _ 9 rfl _ _ 74 rfl Try.underlying74 _ 1 16 infoStr rfl (by decide) _ i _ rfl hown 1 rfl rfl (by simp [Value.oneCell']) (by unfold maxLen; omega) (by omega) ?_); intro v' w1 hown1 hb1 _; obtain ⟨f0, f1, f2⟩ := (HB.out _ hb1).1)
        go_roundw
        case rel => exact ⟨i + 1, by omega, by go_num, HX, by rw [HS.out]; exact hown1, hb1⟩
        case measure => simp [intOf]; omega
      · have hm' : decide ((8 : Int) < (q.n : Int)) = true := (dlt 8 _).trans hm
        have HX := Lib.hid (booksE_many HL4.out (anyI_yes (p := fun _ => manyPairs) HQ.out hm))
        clear hfd hm hq1
        go_wp2_with (at_builtin; go_must (refine wpList_app hb hb.size _ 9 rfl _ _ 74 rfl Try.underlying74 _ 1 16 infoStr rfl (by decide) _ i _ rfl hown 1 rfl rfl (by simp [Value.oneCell']) (by unfold maxLen; omega) (by omega) ?_); intro v' w1 hown1 hb1 _; obtain ⟨f0, f1, f2⟩ := (HB.out _ hb1).1)
        go_ret
        exact ⟨ret_int HX.out.symm, hb1⟩
    · have hin : i = n := by omega
      have HM := Lib.hid (anyI_end (by rw [HLE.out]; omega) (by rw [HLE.out]; exact hi) hfd.out)
      have hown2 : wr.ownsRow w.heap.size 9 1 u3 n (strs (locs bs)) := by
        have := hown
        rw [hin, List.take_of_length_le (by rw [HLE.out]; exact Nat.le_refl _)] at this
        exact this
      obtain ⟨SA, scap, hsv, hst⟩ := ownsRow_strs hown2 (by unfold maxLen; omega)
      have HST := Lib.hid hst
      clear hown hown2 hst hfd hin
      rw [hsv]
      clear hsv
      obtain ⟨wa, hwa⟩ : ∃ wa : World, wa = wr := ⟨_, rfl⟩
      rw [← hwa] at hb HST
      rw [← hwa]
      clear hwa
      go_wp2
      go_loopw [5] (fun b5 wr => ∃ i : Nat, i ≤ n ∧ b5 = .int .i64 i ∧ Hid (anyTo (atI (fun _ => badBook) bs) i = false) ∧ Below wa.heap.size wa wr) (fun b5 _ => n - (intOf b5).toNat)
      case atStart => exact ⟨0, Nat.zero_le _, rfl, Lib.hid rfl, Below.refl _ _⟩
      case round =>
        obtain ⟨k, hk, rfl, hfk, hb2⟩ := hrel
        by_cases hkt : k < n
        · obtain ⟨b, o, q, rfl, hbB, hq, hq1, hq2⟩ := HR.out.get hkt
          have HB := Lib.hid hq2
          have HQ := Lib.hid hq
          have hbw : Below w.heap.size w wr := hb.trans (hb2.mono hb.size)
          obtain ⟨e0, e1, e2⟩ := (hq2 _ hbw).1
          clear hq hq2
          cases hnm : nameOk q.loc
          · have NA : Hid (∀ w, Calls Try.prog 61 #[.string q.loc] w fun e w' => e = .returned (.bool false) ∧ w = w') := Lib.hid (fun w => by have := isName_any q.loc w hq1; rw [hnm] at this; exact this)
            have HX := Lib.hid (booksE_name HL4.out HM.out (anyI_yes (p := fun _ => badBook) HQ.out (by unfold badBook; rw [hnm]; rfl)))
            clear hnm hq1 hfk
            go_wp2_with (go_at_call 61; (with_reducible refine (NA.out _).mono ?_); rintro e w4 ⟨rfl, rfl⟩)
            go_ret
            exact ⟨ret_int HX.out.symm, hbw⟩
          · have NA : Hid (∀ w, Calls Try.prog 61 #[.string q.loc] w fun e w' => e = .returned (.bool true) ∧ w = w') := Lib.hid (fun w => by have := isName_any q.loc w hq1; rw [hnm] at this; exact this)
            have HN := Lib.hid hnm
            clear hnm hq1
            have hqn : q.n ≤ 9223372036854775807 := ((HB.out _ (Below.refl _ _)).2).2.1
            have HP := Lib.hid ((HB.out _ (Below.refl _ _)).2)
            obtain ⟨wo, hwo⟩ : ∃ wo : World, wo = wr := ⟨_, rfl⟩
            rw [← hwo] at hb2 hbw e0 e1 e2
            rw [← hwo]
            clear hwo
            go_wp2_with (go_at_call 61; (with_reducible refine (NA.out _).mono ?_); rintro e w4 ⟨rfl, rfl⟩)
            go_loopw [6] (fun b6 wr => ∃ i : Nat, i ≤ q.n ∧ b6 = .int .i64 i ∧ Hid (anyTo (atI (fun _ => badPair) q.ps) i = false) ∧ Below w.heap.size w wr ∧ Below wa.heap.size wa wr) (fun b6 _ => q.n - (intOf b6).toNat)
            case atStart => exact ⟨0, Nat.zero_le _, rfl, Lib.hid rfl, hbw, hb2⟩
            case round =>
              obtain ⟨i, hi, rfl, hfi, hbi, hbi2⟩ := hrel
              obtain ⟨f0, f1, f2⟩ := (HB.out _ hbi).1
              clear e0 e1 e2
              by_cases hit : i < q.n
              · obtain ⟨c, f, r, hA, hcB, hr, hr1, hr2, hr3⟩ := HP.out.get hit
                have HRR := Lib.hid hr
                obtain ⟨g0, g1⟩ := hr3 _ hbi
                rw [hA] at f2
                clear hr hr3 hA
                cases hkm : nameOk r.key
                · have NA2 : Hid (∀ w, Calls Try.prog 61 #[.string r.key] w fun e w' => e = .returned (.bool false) ∧ w = w') := Lib.hid (fun w => by have := isName_any r.key w hr1; rw [hkm] at this; exact this)
                  have HX := Lib.hid (booksE_name HL4.out HM.out (anyI_yes (p := fun _ => badBook) HQ.out (by unfold badBook; rw [hasP_yes HRR.out (by unfold badPair; rw [hkm]; rfl)]; simp)))
                  clear hkm hr1 hfi
                  go_wp2_with (go_at_call 61; (with_reducible refine (NA2.out _).mono ?_); rintro e w4 ⟨rfl, rfl⟩)
                  go_ret
                  exact ⟨ret_int HX.out.symm, hbi⟩
                · have NA2 : Hid (∀ w, Calls Try.prog 61 #[.string r.key] w fun e w' => e = .returned (.bool true) ∧ w = w') := Lib.hid (fun w => by have := isName_any r.key w hr1; rw [hkm] at this; exact this)
                  cases htx : decide (12 < r.text.size)
                  · have ht' : decide ((12 : Int) < (r.text.size : Int)) = false := (dlt 12 _).trans htx
                    have HX := Lib.hid (anyI_no (p := fun _ => badPair) HRR.out hfi.out (by unfold badPair; rw [hkm, htx]; rfl))
                    clear hkm hr1 hfi htx
                    go_wp2_with (go_at_call 61; (with_reducible refine (NA2.out _).mono ?_); rintro e w4 ⟨rfl, rfl⟩)
                    go_roundw
                    case rel => exact ⟨i + 1, by omega, by go_num, HX, hbi, hbi2⟩
                    case measure => simp [intOf]; omega
                  · have ht' : decide ((12 : Int) < (r.text.size : Int)) = true := (dlt 12 _).trans htx
                    have HX := Lib.hid (booksE_name HL4.out HM.out (anyI_yes (p := fun _ => badBook) HQ.out (by unfold badBook; rw [hasP_yes HRR.out (by unfold badPair; rw [htx]; simp)]; simp)))
                    clear hkm hr1 hfi htx
                    go_wp2_with (go_at_call 61; (with_reducible refine (NA2.out _).mono ?_); rintro e w4 ⟨rfl, rfl⟩)
                    go_ret
                    exact ⟨ret_int HX.out.symm, hbi⟩
              · have HX := Lib.hid (anyI_no (p := fun _ => badBook) HQ.out hfk.out (by unfold badBook; rw [HN.out, hasP_no (by rw [HP.out.1]; omega) (by rw [HP.out.1]; exact hi) hfi.out]; rfl))
                go_wp2
                go_roundw
                case rel => exact ⟨k + 1, by omega, by go_num, HX, hbi2⟩
                case measure => simp [intOf]; omega
        · have HN := Lib.hid (anyI_end (by rw [HLE.out]; omega) (by rw [HLE.out]; exact hk) hfk.out)
          have hbw : Below w.heap.size w wr := hb.trans (hb2.mono hb.size)
          have hst2 := (HST.out.below hb2 (Nat.le_refl _)).more hb2.size
          have TW := Lib.hid (twice_any SA n scap (locs bs) wr hst2)
          clear hst2 hfk
          cases hd : dup (locs bs)
          · rw [hd] at TW
            have HD := Lib.hid hd
            clear hd
            go_wp2_with (go_at_call 62; (with_reducible refine TW.out.mono ?_); rintro e w4 ⟨rfl, hb4⟩; have hb5 := hbw.trans (hb4.mono hbw.size); clear hb4)
            clear hb2 hbw
            go_loopw [7, 8] (fun b7 _ wr => ∃ i : Nat, i ≤ n ∧ b7 = .int .i64 i ∧ Hid (anyTo (atI (fun _ => fallsB) bs) i = false) ∧ Below w.heap.size w wr) (fun b7 _ _ => n - (intOf b7).toNat)
            case atStart => exact ⟨0, Nat.zero_le _, rfl, Lib.hid rfl, hb5⟩
            case round =>
              obtain ⟨k, hk, rfl, hfk, hbk⟩ := hrel
              clear hb5
              by_cases hkt : k < n
              · obtain ⟨b, o, q, rfl, hbB, hq, hq1, hq2⟩ := HR.out.get hkt
                have HB := Lib.hid hq2
                have HQ := Lib.hid hq
                obtain ⟨e0, e1, e2⟩ := (hq2 _ hbk).1
                clear hq hq2
                have hqn : q.n ≤ 9223372036854775807 := ((HB.out _ (Below.refl _ _)).2).2.1
                have HP := Lib.hid ((HB.out _ (Below.refl _ _)).2)
                obtain ⟨wo, hwo⟩ : ∃ wo : World, wo = wr := ⟨_, rfl⟩
                rw [← hwo] at hbk e0 e1 e2
                rw [← hwo]
                clear hwo
                go_wp2
                go_loopw [8] (fun b8 wr => ∃ i : Nat, 1 ≤ i ∧ (i ≤ q.n ∨ i = 1) ∧ b8 = .int .i64 i ∧ Hid (anyTo (fallAt q.ps) i = false) ∧ Below w.heap.size w wr) (fun b8 _ => q.n - (intOf b8).toNat)
                case atStart => exact ⟨1, Nat.le_refl _, .inr rfl, rfl, Lib.hid rfl, hbk⟩
                case round =>
                  obtain ⟨i, hi1, hi, rfl, hfi, hbi⟩ := hrel
                  obtain ⟨f0, f1, f2⟩ := (HB.out _ hbi).1
                  clear e0 e1 e2
                  by_cases hit : i < q.n
                  · obtain ⟨c, f, r, hA, hcB, hr, hr1, hr2, hr3⟩ := HP.out.get hit
                    have HRR := Lib.hid hr
                    obtain ⟨g0, g1⟩ := hr3 _ hbi
                    obtain ⟨c', f', r', hA', hcB', hr', hr1', hr2', hr3'⟩ := HP.out.get (i := i - 1) (by omega)
                    have hAA := hA.symm.trans hA'
                    obtain ⟨rfl, rfl⟩ : c = c' ∧ f = f' := by simpa using hAA
                    obtain ⟨d0, d1⟩ := hr3' _ hbi
                    have FA : Hid (fallAt q.ps i = !lessB r'.key r.key) := by
                      obtain ⟨j, rfl⟩ : ∃ j, i = j + 1 := ⟨i - 1, by omega⟩
                      rw [show j + 1 - 1 = j by omega] at hr'
                      exact fallAt_succ hr' hr
                    rw [hA] at f2
                    clear hr hr3 hA hr' hr3' hA' hAA
                    cases hls : lessB r'.key r.key
                    · have HX := Lib.hid (booksE_fall HL4.out HM.out HN.out (anyI_yes (p := fun _ => fallsB) HQ.out (anyTo_yes (n := q.ps.length) (by rw [HP.out.1]; exact hit) (by rw [FA.out, hls]; rfl))))
                      have hls' : Op.bytesLess r'.key.toList r.key.toList = false := hls
                      clear hls FA hfi
                      go_wp2
                      go_quiet (fail)
                      go_wp2
                      go_ret
                      exact ⟨ret_int HX.out.symm, below_drewN hbi _⟩
                    · have HX := Lib.hid (anyTo_no hfi.out (by rw [FA.out, hls]; rfl))
                      have hls' : Op.bytesLess r'.key.toList r.key.toList = true := hls
                      clear hls FA hfi
                      go_wp2
                      go_quiet (fail)
                      go_wp2
                      go_roundw
                      case rel => exact ⟨i + 1, by omega, by omega, by go_num, HX, below_drewN hbi _⟩
                      case measure => simp [intOf]; omega
                  · have HX := Lib.hid (anyI_no (p := fun _ => fallsB) HQ.out hfk.out (by
                      have hps := HP.out.1
                      unfold fallsB
                      rw [hps]
                      rcases hi with h | h
                      · rw [show q.n = i by omega]; exact hfi.out
                      · by_cases h0 : q.n = 0
                        · rw [h0]; rfl
                        · rw [show q.n = i by omega]; exact hfi.out))
                    go_wp2
                    go_roundw
                    case rel => exact ⟨k + 1, by omega, by go_num, HX, hbi⟩
                    case measure => simp [intOf]; omega
              · have HF := Lib.hid (anyI_end (by rw [HLE.out]; omega) (by rw [HLE.out]; exact hk) hfk.out)
                clear hfk
                go_wp2
                go_loopw [9] (fun b9 wr => ∃ i : Nat, i ≤ n ∧ b9 = .int .i64 i ∧ Hid (anyTo (atI badPar bs) i = false) ∧ Below w.heap.size w wr) (fun b9 _ => n - (intOf b9).toNat)
                case atStart => exact ⟨0, Nat.zero_le _, rfl, Lib.hid rfl, hbk⟩
                case round =>
                  obtain ⟨i, hi, rfl, hfi, hbi⟩ := hrel
                  by_cases hit : i < n
                  · obtain ⟨b, o, q, rfl, hbB, hq, hq1, hq2⟩ := HR.out.get hit
                    have HQ := Lib.hid hq
                    obtain ⟨e0, e1, e2⟩ := (hq2 _ hbi).1
                    clear hq hq2
                    cases hpr : withinB q.par (-1) ((i : Int) - 1)
                    · have HX := Lib.hid (booksE_par HL4.out HM.out HN.out HD.out HF.out (anyI_yes HQ.out (by
                        rw [withinB_no] at hpr
                        unfold badPar
                        simp only [Bool.or_eq_true, decide_eq_true_eq]
                        omega)))
                      have WA : Hid (∀ w, Calls Try.prog 47 #[.int .i64 q.par, .int .i64 (-1), .int .i64 ((i : Int) - 1)] w fun e w' => e = .returned (.bool false) ∧ w = w') := Lib.hid (fun w => by have := within_any q.par (-1) ((i : Int) - 1) w; rw [hpr] at this; exact this)
                      clear hpr hfi
                      go_wp2_with (go_at_call 47; (with_reducible refine (WA.out _).mono ?_); rintro e w4 ⟨rfl, rfl⟩)
                      go_ret
                      exact ⟨ret_int HX.out.symm, hbi⟩
                    · have HX := Lib.hid (anyI_no (p := badPar) HQ.out hfi.out (by
                        rw [withinB_iff] at hpr
                        unfold badPar
                        simp only [Bool.or_eq_false_iff, decide_eq_false_iff_not]
                        omega))
                      have WA : Hid (∀ w, Calls Try.prog 47 #[.int .i64 q.par, .int .i64 (-1), .int .i64 ((i : Int) - 1)] w fun e w' => e = .returned (.bool true) ∧ w = w') := Lib.hid (fun w => by have := within_any q.par (-1) ((i : Int) - 1) w; rw [hpr] at this; exact this)
                      clear hpr hfi
                      go_wp2_with (go_at_call 47; (with_reducible refine (WA.out _).mono ?_); rintro e w4 ⟨rfl, rfl⟩)
                      go_roundw
                      case rel => exact ⟨i + 1, by omega, by go_num, HX, hbi⟩
                      case measure => simp [intOf]; omega
                  · have HX := Lib.hid (booksE_ok HL4.out HM.out HN.out HD.out HF.out (anyI_end (by rw [HLE.out]; omega) (by rw [HLE.out]; exact hi) hfi.out))
                    go_wp2
                    go_ret
                    exact ⟨ret_int HX.out.symm, hbi⟩
          · rw [hd] at TW
            have HX := Lib.hid (booksE_dup HL4.out HM.out HN.out hd)
            clear hd
            go_wp2_with (go_at_call 62; (with_reducible refine TW.out.mono ?_); rintro e w4 ⟨rfl, hb4⟩; have hb5 := hbw.trans (hb4.mono hbw.size); clear hb4)
            go_ret
            exact ⟨ret_int HX.out.symm, hb5⟩
end Go.Proofs.Ytlmphmfadikdpaa
