/- Offsets as text: the walk of OffsStyles. -/
import Derived.Test.YtggepbkhhnhnkaaDoorOfF
import Derived.Deep.RegionHeld3
import Derived.BigRegion
set_option linter.unusedVariables false
set_option linter.unusedSimpArgs false
namespace Gno
open Go
theorem style_zero : showT 1 0 = ⟨#[43,48,48,48,48]⟩ ∧ showT 2 0 = ⟨#[90]⟩ ∧ showT 3 0 = ⟨#[71,77,84]⟩ ∧ showT 4 0 = ⟨#[71,77,84]⟩ := by
  refine ⟨?_, ?_, ?_, ?_⟩ <;> rfl
theorem style_e {n : Int} : showE 1 n = showE 2 n ∧ showE 2 n = showE 3 n ∧ showE 3 n = showE 4 n := ⟨rfl, rfl, rfl⟩
/-- what the five texts are, at an offset that is not 0. -/
structure Styles (n : Int) (a b c d x : ByteArray) (s s' p q r t : UInt8) : Prop where
  a : a = ⟨#[s, p, q, r, t]⟩
  b : b = ⟨#[s, p, q, 58, r, t]⟩
  c : c = ⟨#[71, 77, 84, s, p, q, 58, r, t]⟩
  d : d.size ≤ 9
  x : x = ⟨#[s', p, q, r, t]⟩
  ne : s ≠ s'
  sg : 0 < n ↔ s = 43
theorem styles_at {n : Int} (h : offOk n = true) (h0 : n ≠ 0) : ∃ s s' p q r t, Styles n (showT 1 n) (showT 2 n) (showT 4 n) (showT 3 n) (showT 1 (-n)) s s' p q r t := by
  have hm : offOk (-n) = true := by simp only [offOk, decide_eq_true_eq] at h ⊢; omega
  have hna : (-n).natAbs = n.natAbs := Int.natAbs_neg n
  by_cases hs : n < 0
  · have hs2 : ¬ (-n) < 0 := by omega
    refine ⟨45, 43, UInt8.ofNat (48 + n.natAbs / 60 / 60 / 10), UInt8.ofNat (48 + n.natAbs / 60 / 60 % 10), UInt8.ofNat (48 + n.natAbs / 60 % 60 / 10), UInt8.ofNat (48 + n.natAbs / 60 % 60 % 10), ?_, ?_, ?_, showT_size 3 n, ?_, by decide, ⟨fun h => by omega, fun h => absurd h (by decide)⟩⟩
    · rw [(showE_ok (by rfl) h).2]; simp [B, showL, aheadL, sgL, layL, twL, hs, h0]
    · rw [(showE_ok (by rfl) h).2]; simp [B, showL, aheadL, sgL, layL, twL, hs, h0]
    · rw [(showE_ok (by rfl) h).2]; simp [B, showL, aheadL, sgL, layL, twL, hs, h0]
    · rw [(showE_ok (by rfl) hm).2]; simp [B, showL, aheadL, sgL, layL, twL, hs2, h0, hna, show (0 < n) = False from by simp; omega]
  · have hs2 : (-n) < 0 := by omega
    refine ⟨43, 45, UInt8.ofNat (48 + n.natAbs / 60 / 60 / 10), UInt8.ofNat (48 + n.natAbs / 60 / 60 % 10), UInt8.ofNat (48 + n.natAbs / 60 % 60 / 10), UInt8.ofNat (48 + n.natAbs / 60 % 60 % 10), ?_, ?_, ?_, showT_size 3 n, ?_, by decide, ⟨fun _ => rfl, fun _ => by omega⟩⟩
    · rw [(showE_ok (by rfl) h).2]; simp [B, showL, aheadL, sgL, layL, twL, hs, h0]
    · rw [(showE_ok (by rfl) h).2]; simp [B, showL, aheadL, sgL, layL, twL, hs, h0]
    · rw [(showE_ok (by rfl) h).2]; simp [B, showL, aheadL, sgL, layL, twL, hs, h0]
    · rw [(showE_ok (by rfl) hm).2]; simp [B, showL, aheadL, sgL, layL, twL, hs2, h0, hna, show (0 < n) = True from by simp; omega]
end Gno
namespace Go.Proofs.YtggepbkhhnhnkaaDoor
open Go.RowKit Gno Go.Maps
set_option maxHeartbeats 4000000 in
set_option maxRecDepth 100000 in
theorem offsStyles_walk (n : Int) (hw : (Lit.int .i64 n).wf = true) (w : World) (hm : OMet w) : Calls Tryd.prog 5 #[.int .i64 n] w fun e w' => e = .returned (.bool true) ∧ Below w.heap.size w w' := by
  have G := Lib.hid (fun w hm => offsBegun_any w hm)
  have HM := Lib.hid hm
  clear hm
  by_cases he : showE 1 n = 0
  · obtain ⟨_, hok⟩ := showE_zero he
    have S : Hid (∀ k, kindB k = true → (Lit.int .i64 k).wf = true → ∀ T, showT k n = T → ∀ w, Calls Tryd.prog 6 #[.int .i64 k, .int .i64 n] w fun e w' => e = .returned (.tuple #[.string T, .int .i64 0]) ∧ Below w.heap.size w w') := Lib.hid fun k hk hkw T hT w => by
      have := show_any k n hkw w
      rwa [(showE_ok hk hok).1, hT] at this
    by_cases h0 : n = 0
    · subst h0
      go_enter Tryd.func5, Tryd.ntmps5
      go_wp2_with fail
      refine (S.out 1 (by rfl) (by rfl) _ style_zero.1 _).mono ?_
      rintro e w1 ⟨rfl, h1⟩
      go_wp2_with fail
      refine (S.out 2 (by rfl) (by rfl) _ style_zero.2.1 _).mono ?_
      rintro e w2 ⟨rfl, h2⟩
      replace h2 := h1.trans (h2.mono h1.size)
      clear h1
      go_wp2_with fail
      refine (S.out 4 (by rfl) (by rfl) _ style_zero.2.2.2 _).mono ?_
      rintro e w3 ⟨rfl, h3⟩
      replace h3 := h2.trans (h3.mono h2.size)
      clear h2
      go_wp2_with fail
      refine (S.out 3 (by rfl) (by rfl) _ style_zero.2.2.1 _).mono ?_
      rintro e w4 ⟨rfl, h4⟩
      replace h4 := h3.trans (h4.mono h3.size)
      clear h3
      go_wp2_with fail
      refine (G.out _ (HM.out.below h4)).mono ?_
      rintro e w5 ⟨rfl, h5⟩
      replace h5 := h4.trans (h5.mono h4.size)
      clear h4
      go_wp2
      go_ret
      exact ⟨by rfl, h5⟩
    · obtain ⟨s, s', p, q, r, t, hst⟩ := styles_at hok h0
      have hm2 : offOk (-n) = true := by simp only [offOk, decide_eq_true_eq] at hok ⊢; omega
      have HX : Hid (∀ w, Calls Tryd.prog 6 #[.int .i64 1, .int .i64 (-n)] w fun e w' => e = .returned (.tuple #[.string (showT 1 (-n)), .int .i64 0]) ∧ Below w.heap.size w w') := Lib.hid fun w => by
        have := show_any 1 (-n) (by rfl) w
        rwa [(showE_ok (by rfl) hm2).1] at this
      have hwm : wrap64 (-n) = -n := by
        simp only [offOk, decide_eq_true_eq] at hok
        unfold wrap64; omega
      have hn0 : (n == 0) = false := beq_eq_false_iff_ne.2 h0
      obtain ⟨D, hD⟩ : ∃ D, D = showT 3 n := ⟨_, rfl⟩
      obtain ⟨a, ha⟩ : ∃ a, a = showT 1 n := ⟨_, rfl⟩
      obtain ⟨b, hb⟩ : ∃ b, b = showT 2 n := ⟨_, rfl⟩
      obtain ⟨c, hc⟩ : ∃ c, c = showT 4 n := ⟨_, rfl⟩
      obtain ⟨x, hx⟩ : ∃ x, x = showT 1 (-n) := ⟨_, rfl⟩
      rw [← hx] at HX
      rw [← ha, ← hb, ← hc, ← hD, ← hx] at hst
      have HA := Lib.hid ha.symm
      have HB := Lib.hid hb.symm
      have HC := Lib.hid hc.symm
      have HD := Lib.hid hD.symm
      clear ha hb hc hD hx
      have za : a.size = 5 := by rw [hst.a]; rfl
      have zb : b.size = 6 := by rw [hst.b]; rfl
      have zc : c.size = 9 := by rw [hst.c]; rfl
      have zx : x.size = 5 := by rw [hst.x]; rfl
      have zd := hst.d
      have f1 : (c.toList == ((⟨#[71, 77, 84]⟩ : ByteArray) ++ b).toList) = true := same_yes (by rw [hst.c, hst.b]; rfl)
      have f2 : (b.toList == (a.extract 0 3 ++ ⟨#[58]⟩ ++ a.extract 3 5).toList) = true := same_yes (by rw [hst.b, hst.a]; rfl)
      have f3 : ((a.extract 1 5).toList == (x.extract 1 5).toList) = true := same_yes (by rw [hst.a, hst.x]; rfl)
      have ia' : 0 < a.size := by omega
      have ix' : 0 < x.size := by omega
      have ea : a[0] = s := by have e := hst.a; subst e; rfl
      have ex : x[0] = s' := by have e := hst.x; subst e; rfl
      have fi : ((a[0].toNat : Int) != (x[0].toNat : Int)) = true := by
        rw [ea, ex, bne_iff_ne]
        intro h
        exact hst.ne (UInt8.toNat_inj.1 (by omega))
      have fd : decide ((D.size : Int) ≤ 9) = true := decide_eq_true (by omega)
      have fn : (decide (0 < n) = true ∧ ((a[0].toNat : Int) == 43) = true) ∨ (decide (0 < n) = false ∧ ((a[0].toNat : Int) == 43) = false) := by
        rw [ea]
        by_cases hp : 0 < n
        · exact .inl ⟨decide_eq_true hp, by rw [hst.sg.1 hp]; rfl⟩
        · refine .inr ⟨decide_eq_false hp, beq_eq_false_iff_ne.2 fun h => hp (hst.sg.2 (UInt8.toNat_inj.1 ?_))⟩
          show s.toNat = 43
          omega
      clear ea ex
      have HST := Lib.hid hst
      clear hst
      rcases fn with ⟨fn1, fn2⟩ | ⟨fn1, fn2⟩
      all_goals
        go_enter Tryd.func5, Tryd.ntmps5
        go_wp2_with fail
        refine (S.out 1 (by rfl) (by rfl) _ HA.out _).mono ?_
        rintro e w1 ⟨rfl, h1⟩
        go_wp2_with fail
        refine (S.out 2 (by rfl) (by rfl) _ HB.out _).mono ?_
        rintro e w2 ⟨rfl, h2⟩
        replace h2 := h1.trans (h2.mono h1.size)
        clear h1
        go_wp2_with fail
        refine (S.out 4 (by rfl) (by rfl) _ HC.out _).mono ?_
        rintro e w3 ⟨rfl, h3⟩
        replace h3 := h2.trans (h3.mono h2.size)
        clear h2
        go_wp2_with fail
        refine (S.out 3 (by rfl) (by rfl) _ HD.out _).mono ?_
        rintro e w4 ⟨rfl, h4⟩
        replace h4 := h3.trans (h4.mono h3.size)
        clear h3
        go_wp2_with fail
        refine (HX.out _).mono ?_
        rintro e w5 ⟨rfl, h5⟩
        replace h5 := h4.trans (h5.mono h4.size)
        clear h4
        clear HX S HD HA HB HC
        go_wp2_with fail
        have hbd : Below w5.heap.size w5 w5.drew := ⟨rfl, rfl, rfl, Nat.le_refl _, fun _ _ => rfl⟩
        have h5d := h5.trans (hbd.mono h5.size)
        go_region_held3 (fun w' => True) (trivial) (first | (go_at_call 10; (with_reducible refine (G.out _ (HM.out.below (by first | exact h5 | exact h5d))).mono ?_); rintro e w6 ⟨rfl, h6⟩; first | (have h7 := h5.trans (h6.mono h5.size)) | (have h7 := h5d.trans (h6.mono h5d.size)); clear h6))
        all_goals (try go_wp2)
        all_goals go_ret
        all_goals exact ⟨rfl, h7⟩
  · have he3 : showE 1 n = 3 := by
      rcases showE_cases 1 n with h | h | h
      · exact absurd h he
      · exact h
      · unfold showE at h; simp [kindB] at h; split at h <;> cases h
    have S : Hid (∀ k, kindB k = true → (Lit.int .i64 k).wf = true → ∀ w, Calls Tryd.prog 6 #[.int .i64 k, .int .i64 n] w fun e w' => e = .returned (.tuple #[.string ⟨#[]⟩, .int .i64 3]) ∧ Below w.heap.size w w') := Lib.hid fun k hk hkw w => by
      have hno : offOk n = false := by
        cases h : offOk n
        · rfl
        · exact absurd (showE_ok (by rfl) h).1 he
      have := show_any k n hkw w
      rwa [(showE_range hk hno).1, (showE_range hk hno).2] at this
    go_enter Tryd.func5, Tryd.ntmps5
    go_wp2_with fail
    refine (S.out 1 (by rfl) (by rfl) _).mono ?_
    rintro e w1 ⟨rfl, h1⟩
    go_wp2_with fail
    refine (S.out 2 (by rfl) (by rfl) _).mono ?_
    rintro e w2 ⟨rfl, h2⟩
    replace h2 := h1.trans (h2.mono h1.size)
    clear h1
    go_wp2_with fail
    refine (S.out 4 (by rfl) (by rfl) _).mono ?_
    rintro e w3 ⟨rfl, h3⟩
    replace h3 := h2.trans (h3.mono h2.size)
    clear h2
    go_wp2_with fail
    refine (S.out 3 (by rfl) (by rfl) _).mono ?_
    rintro e w4 ⟨rfl, h4⟩
    replace h4 := h3.trans (h4.mono h3.size)
    clear h3
    go_wp2_with fail
    refine (G.out _ (HM.out.below h4)).mono ?_
    rintro e w5 ⟨rfl, h5⟩
    replace h5 := h4.trans (h5.mono h4.size)
    clear h4
    go_wp2
    go_ret
    exact ⟨rfl, h5⟩
end Go.Proofs.YtggepbkhhnhnkaaDoor
