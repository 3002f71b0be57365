/- The walk of BackTells. -/
import Derived.Test.YtbbbeldbhlehnaaGreatDoorMUBkT37
set_option linter.unusedSimpArgs false
set_option linter.unusedVariables false
/-! The walk of BackTells. -/
section
set_option linter.unusedVariables false
set_option linter.unusedSimpArgs false
namespace Gno
open Go
theorem wdsL_few {x : Wd} {loc : ByteArray} {t p : Int} (hzn : x.d.zs.length = x.d.zn) : (wdsL x loc t p).length ≤ 1000 := by
  by_cases h : wdsE x loc t p = 0
  · have := data_few (preE_zero (wdsE_zero h).1).1.data
    rw [wdsL_len h]; omega
  · rw [wdsL_bad h]; simp
theorem prsL_few {x : Wd} {loc s : ByteArray} {t p : Int} (hzn : x.d.zs.length = x.d.zn) : (prsL x loc s t p).length ≤ 1000 := by
  by_cases h : wdsE x loc t p = 0
  · have := data_few (preE_zero (wdsE_zero h).1).1.data
    have h2 := prsUp_len (x := x) (loc := loc) (s := s) (t := t) (p := p) x.d.zs.length
    rw [(prsL_is h).1, sortB_len]; omega
  · rw [(prsL_bad h).1]; simp
end Gno
namespace Go.Proofs.YtbbbeldbhlehnaaGreatDoor
open Go.RowKit Gno
set_option maxRecDepth 100000 in
set_option maxHeartbeats 16000000 in
theorem backTells_walk (x : Wd) (loc s : ByteArray) (t p : Int) (w : World) (hW : WdAt w x) (hM : MaxAt w w.heap.size) (hs : s.size ≤ maxLen) (hp : (Lit.int .i64 p).wf = true) :
    Calls Tryz.prog 7 #[x.val, .string loc, .string s, .int .i64 t, .int .i64 p] w fun e w' => e = .returned (.bool true) ∧ Below w.heap.size w w' := by
  have HX := Lib.hid (fun W (h : Below (w.heap.size + 1) (w.alloc (Wobj x)) W) => boxW hW h)
  have W1 := Lib.hid (fun W (h : Below (w.heap.size + 1) (w.alloc (Wobj x)) W) => wordsP_any x loc t p W (HX.out W h).2.1 (hM.next (HX.out W h).1) hp)
  have W2 := Lib.hid (fun W (h : Below (w.heap.size + 1) (w.alloc (Wobj x)) W) => wordsR_any x loc t p W (HX.out W h).2.1 (hM.next (HX.out W h).1))
  have P1 := Lib.hid (fun W (h : Below (w.heap.size + 1) (w.alloc (Wobj x)) W) => parseP_any x loc s t p W (HX.out W h).2.1 (hM.next (HX.out W h).1) hp)
  have P2 := Lib.hid (fun W (h : Below (w.heap.size + 1) (w.alloc (Wobj x)) W) => parseR_any x loc s t p W (HX.out W h).2.1 (hM.next (HX.out W h).1) hs)
  have BB := Lib.hid (fun W (h : Below (w.heap.size + 1) (w.alloc (Wobj x)) W) => backBegun_any W (hM.next (HX.out W h).1))
  have hf1 := wdsL_few (loc := loc) (t := t) (p := p) hW.1.2.1.1
  have hf2 := prsL_few (loc := loc) (s := s) (t := t) (p := p) hW.1.2.1.1
  have ST := Lib.hid @sameTexts_any
  have hbb : Below (w.heap.size + 1) (w.alloc (Wobj x)) (w.alloc (Wobj x)) := Below.refl _ _
  unfold WdCells at HX
  unfold Wd.val at *
  clear hW hM hs hp
  obtain ⟨WL, hWL⟩ : ∃ v, v = wdsL x loc t p := ⟨_, rfl⟩
  obtain ⟨E, hE⟩ : ∃ v, v = wdsE x loc t p := ⟨_, rfl⟩
  obtain ⟨PL, hPL⟩ : ∃ v, v = prsL x loc s t p := ⟨_, rfl⟩
  obtain ⟨PN, hPN⟩ : ∃ v, v = prsN x loc s t p := ⟨_, rfl⟩
  rw [← hWL, ← hE] at W1 W2
  rw [← hPL, ← hPN, ← hE] at P1 P2
  rw [← hWL] at hf1
  rw [← hPL] at hf2
  clear hWL hE hPL hPN
  go_enter Tryz.func7, Tryz.ntmps7
  go_wp2_with fail
  refine (W1.out _ hbb).mono ?_
  rintro e w1 ⟨v1, rfl, ho1, h1⟩
  have H1 := Lib.hid (boxW_more hbb h1)
  have HO1 := Lib.hid ho1
  obtain ⟨_, _, c0, c1, c2, c3, c4⟩ := HX.out _ H1.out
  clear h1 hbb W1 ho1
  go_wp2_with fail
  refine (P1.out _ H1.out).mono ?_
  rintro e w2 ⟨v2, rfl, ho2, h2⟩
  have H2 := Lib.hid (boxW_more H1.out h2)
  replace HO1 := Lib.hid (own_belowU HO1.out h2 (Nat.le_refl _))
  have HO2 := Lib.hid ho2
  clear c0 c1 c2 c3 c4
  obtain ⟨_, _, c0, c1, c2, c3, c4⟩ := HX.out _ H2.out
  clear h2 P1 ho2 H1
  go_wp2_with fail
  refine (W2.out _ H2.out).mono ?_
  rintro e w3 ⟨v3, rfl, ho3, h3⟩
  have H3 := Lib.hid (boxW_more H2.out h3)
  replace HO1 := Lib.hid (own_belowU HO1.out h3 (Nat.le_refl _))
  replace HO2 := Lib.hid (own_belowU HO2.out h3 (Nat.le_refl _))
  have HO3 := Lib.hid ho3
  clear c0 c1 c2 c3 c4
  obtain ⟨_, _, c0, c1, c2, c3, c4⟩ := HX.out _ H3.out
  clear h3 W2 ho3 H2
  go_wp2_with fail
  refine (P2.out _ H3.out).mono ?_
  rintro e w4 ⟨v4, rfl, ho4, h4⟩
  have H4 := Lib.hid (boxW_more H3.out h4)
  replace HO1 := Lib.hid (own_belowU HO1.out h4 (Nat.le_refl _))
  replace HO2 := Lib.hid (own_belowU HO2.out h4 (Nat.le_refl _))
  replace HO3 := Lib.hid (own_belowU HO3.out h4 (Nat.le_refl _))
  have HO4 := Lib.hid ho4
  clear c0 c1 c2 c3 c4 h4 P2 ho4 H3
  go_wp2_with fail
  refine (BB.out _ H4.out).mono ?_
  rintro e w5 ⟨rfl, h5⟩
  have H5 := Lib.hid (boxW_more H4.out h5)
  have ST1 := Lib.hid (ST.out _ _ _ _ _ _ _ (own_belowU HO1.out h5 (Nat.le_refl _)) (own_belowU HO3.out h5 (Nat.le_refl _)) hf1)
  replace HO2 := Lib.hid (own_belowU HO2.out h5 (Nat.le_refl _))
  replace HO4 := Lib.hid (own_belowU HO4.out h5 (Nat.le_refl _))
  clear h5 HO1 HO3 BB H4
  go_wp2_with fail
  refine ST1.out.mono ?_
  rintro e w6 ⟨rfl, h6⟩
  have H6 := Lib.hid (boxW_more H5.out h6)
  have ST2 := Lib.hid (ST.out _ _ _ _ _ _ _ (own_belowU HO2.out h6 (Nat.le_refl _)) (own_belowU HO4.out h6 (Nat.le_refl _)) hf2)
  clear h6 HO2 HO4 H5 ST1
  go_wp2_with fail
  refine ST2.out.mono ?_
  rintro e w7 ⟨rfl, h7⟩
  have HF := Lib.hid (HX.out _ (boxW_more H6.out h7)).1
  clear h7
  go_wp2
  go_ret
  exact ⟨rfl, HF.out⟩
end Go.Proofs.YtbbbeldbhlehnaaGreatDoor
end
