/- SourceBack, walked. -/
import Derived.Test.YthhjgndaiimgjaaGreatDoorMUSrcB34
set_option linter.unusedSimpArgs false
set_option linter.unusedVariables false
/-! SourceBack, walked. -/
section
set_option linter.unusedVariables false
set_option linter.unusedSimpArgs false
set_option maxRecDepth 100000
namespace Gno
open Go Go.RowKit Go.Proofs.YthhjgndaiimgjaaGreatDoor
theorem data_cons {w : World} {n : Nat} {d : Dt} (h : DataAt w n d) : Cons d := by
  refine ⟨h.1.1, h.2.1.1, h.2.2.1.1, fun s hs => ?_, fun z hz => ?_⟩
  · obtain ⟨k, hk⟩ := List.getElem?_of_mem hs
    have hkl := (List.getElem?_eq_some_iff.1 hk).1
    obtain ⟨b, o, q, _, _, hq, _, hr⟩ := sets_get h.1 (i := k) (by rw [← h.1.1]; exact hkl)
    rw [hk] at hq
    obtain rfl := Option.some.inj hq
    exact (hr w (Below.refl _ _)).2.1
  · obtain ⟨k, hk⟩ := List.getElem?_of_mem hz
    have hkl := (List.getElem?_eq_some_iff.1 hk).1
    obtain ⟨b, o, q, _, _, hq, _, hr⟩ := zones_get h.2.1 (i := k) (by rw [← h.2.1.1]; exact hkl)
    rw [hk] at hq
    obtain rfl := Option.some.inj hq
    exact (hr w (Below.refl _ _)).2.1
theorem shew_read {d : Dt} (hc : Cons d) (h0 : dataE d = 0) : readC (shewT d).data.toList = some (cnOf d) := by
  unfold shewT
  rw [if_pos h0, list_Bs]
  exact readC_shown ((okC_of hc).2 h0)
theorem read_shew {s : ByteArray} {c : Cn} {d : Dt} (h : readC s.data.toList = some c) (hd : cnOf d = c) (hc : Cons d) : dataE d = 0 ∧ shewT d = s := by
  obtain ⟨h1, h2⟩ := readC_some h
  rw [← hd] at h1 h2
  have h0 := (okC_of hc).1 h1
  refine ⟨h0, ?_⟩
  unfold shewT
  rw [if_pos h0, h2, Bs_list]
end Gno
namespace Go.Proofs.YthhjgndaiimgjaaGreatDoor
open Go.RowKit Gno
attribute [local go_sem] Oper.semAt_some
set_option maxHeartbeats 8000000 in
theorem sourceBack_walk (d : Dt) (s : ByteArray) (w : World) (hD : DataAt w w.heap.size d) (hm : SMet w w.heap.size) :
    Calls Tryz.prog 4 #[d.val, .string s] w fun e w' => e = .returned (.bool true) ∧ Below w.heap.size w w' := by
  have hcons := data_cons hD
  have HCO := Lib.hid hcons
  have HDA : Hid (∀ W, Below w.heap.size w W → DataAt W W.heap.size d) := Lib.hid fun W hW => hD.next hW
  have HM : Hid (∀ W, Below w.heap.size w W → SMet W W.heap.size) := Lib.hid fun W hW => hm.next hW
  obtain ⟨T, hT⟩ : ∃ T, T = shewT d := ⟨_, rfl⟩
  obtain ⟨n, hn⟩ : ∃ n, n = dataE d := ⟨_, rfl⟩
  have CS : Hid (∀ W, Below w.heap.size w W → Calls Tryz.prog 5 #[.agg #[.slice d.sA d.sn d.sc, .slice d.zA d.zn d.zc, .slice d.lA d.ln d.lc]] W fun e w' => e = .returned (.tuple #[.string T, .int .i64 n]) ∧ Below W.heap.size W w') := Lib.hid fun W hW => by
    rw [hT, hn]
    exact show_any d W (HDA.out W hW) (HM.out W hW)
  have RT : Hid (n = 0 → T.size ≤ 4096 → ∀ W, Below w.heap.size w W → Calls Tryz.prog 8 #[.string T] W fun e w' => Below W.heap.size W w' ∧ ∃ d' : Dt, e = .returned (.tuple #[.agg #[.slice d'.sA d'.sn d'.sc, .slice d'.zA d'.zn d'.zc, .slice d'.lA d'.ln d'.lc], .int .i64 0]) ∧ DataAt w' w'.heap.size d' ∧ cnOf d' = cnOf d ∧ Cons d') := Lib.hid fun h0 hs W hW => read_yes (by rw [hT]; exact shew_read hcons (hn.symm.trans h0)) hs W (HM.out W hW)
  have BG : Hid (∀ W, Below w.heap.size w W → Calls Tryz.prog 9 #[] W fun e w' => e = .returned (.bool true) ∧ Below W.heap.size W w') := Lib.hid fun W hW => sourceBegun_any W (HM.out W hW)
  have SD : Hid (∀ d' W, Below w.heap.size w W → DataAt W W.heap.size d' → cnOf d' = cnOf d → Cons d' → Calls Tryz.prog 10 #[.agg #[.slice d'.sA d'.sn d'.sc, .slice d'.zA d'.zn d'.zc, .slice d'.lA d'.ln d'.lc], .agg #[.slice d.sA d.sn d.sc, .slice d.zA d.zn d.zc, .slice d.lA d.ln d.lc]] W fun e w' => e = .returned (.bool true) ∧ Below W.heap.size W w') := Lib.hid fun d' W hW hd' hc hco => sameData_any d' d W hd' (HDA.out W hW) (same_of hc hco hcons)
  unfold Dt.val
  obtain ⟨W0, hW0⟩ : ∃ W0, W0 = w.alloc (.cells #[.slice d.sA d.sn d.sc, .slice d.zA d.zn d.zc, .slice d.lA d.ln d.lc] 26) := ⟨_, rfl⟩
  have hx0 : XAt w.heap.size (.slice d.sA d.sn d.sc) (.slice d.zA d.zn d.zc) (.slice d.lA d.ln d.lc) W0 := by rw [hW0]; exact World.alloc_heap_new _ _
  have hb0 : Below w.heap.size w W0 := by rw [hW0]; exact (Below.refl _ _).alloc (Nat.le_refl _) _
  have hz0 : W0.heap.size = w.heap.size + 1 := by rw [hW0]; simp
  have HW0 := Lib.hid hW0.symm
  have HX : Hid (∀ W, Below W0.heap.size W0 W → W.cell? ⟨w.heap.size, 0, none⟩ = some (.slice d.sA d.sn d.sc) ∧ W.cell? ⟨w.heap.size, 1, none⟩ = some (.slice d.zA d.zn d.zc) ∧ W.cell? ⟨w.heap.size, 2, none⟩ = some (.slice d.lA d.ln d.lc)) := Lib.hid fun W hW => by
    have h := hx0.below hW
    unfold XAt at h
    exact ⟨cell_of h rfl, cell_of h rfl, cell_of h rfl⟩
  have HB : Hid (∀ W, Below W0.heap.size W0 W → Below w.heap.size w W) := Lib.hid fun W hW => hb0.trans (hW.mono hb0.size)
  clear hD hm hT hn hcons hW0 hx0 hb0 hz0
  by_cases hlong : 4096 < s.size
  · have RS : Hid (∀ W, Below w.heap.size w W → Calls Tryz.prog 8 #[.string s] W fun e w' => Below W.heap.size W w' ∧ e = .returned (.tuple #[.agg #[.slice none 0 0, .slice none 0 0, .slice none 0 0], .int .i64 2])) := Lib.hid fun W hW => read_long hlong W (HM.out W hW)
    clear hlong HM HDA
    go_enter Tryz.func4, Tryz.ntmps4
    go_upto_region 1 with fail
    rw [HW0.out]
    clear HW0
    obtain ⟨m0, m1, m2⟩ := HX.out W0 (Below.refl _ _)
    go_upto_region 2 with (go_at_call 5; (with_reducible refine (CS.out _ (HB.out _ (Below.refl _ _))).mono ?_); rintro e w1 ⟨rfl, hb1⟩)
    clear m0 m1 m2 CS
    by_cases hA : n = 0 ∧ T.size ≤ 4096
    · obtain ⟨h0, h1⟩ := hA
      have RT0 := Lib.hid (RT.out h0 h1)
      subst h0
      have g1 : decide ((T.size : Int) ≤ 4096) = true := decide_eq_true (by omega)
      clear h1 RT
      go_upto_region 4 with (go_at_call 8; (with_reducible refine (RT0.out _ (HB.out _ hb1)).mono ?_); rintro e w2 ⟨hb2, d1, rfl, hD1, hcn1, hco1⟩)
      have hb3 : Below W0.heap.size W0 w2 := hb1.trans (hb2.mono hb1.size)
      clear hb1 hb2
      obtain ⟨W2, hW2⟩ : ∃ W2, W2 = w2.alloc (.cells #[.slice d1.sA d1.sn d1.sc, .slice d1.zA d1.zn d1.zc, .slice d1.lA d1.ln d1.lc] 26) := ⟨_, rfl⟩
      have hb4 : Below w2.heap.size w2 W2 := by rw [hW2]; exact (Below.refl _ _).alloc (Nat.le_refl _) _
      have hx2 : XAt w2.heap.size (.slice d1.sA d1.sn d1.sc) (.slice d1.zA d1.zn d1.zc) (.slice d1.lA d1.ln d1.lc) W2 := by rw [hW2]; exact World.alloc_heap_new _ _
      unfold XAt at hx2
      have k0 : W2.cell? ⟨w2.heap.size, 0, none⟩ = some (.slice d1.sA d1.sn d1.sc) := cell_of hx2 rfl
      have k1 : W2.cell? ⟨w2.heap.size, 1, none⟩ = some (.slice d1.zA d1.zn d1.zc) := cell_of hx2 rfl
      have k2 : W2.cell? ⟨w2.heap.size, 2, none⟩ = some (.slice d1.lA d1.ln d1.lc) := cell_of hx2 rfl
      have hb5 : Below W0.heap.size W0 W2 := hb3.trans (hb4.mono hb3.size)
      obtain ⟨m0, m1, m2⟩ := HX.out W2 hb5
      have SD0 := Lib.hid (SD.out d1 W2 (HB.out _ hb5) (hD1.next hb4) hcn1 hco1)
      rw [← hW2]
      clear hW2 hb4 hx2 hb3 hD1 hcn1 hco1 SD RT0
      go_upto_region 6 with (go_at_call 10; (with_reducible refine SD0.out.mono ?_); rintro e w3 ⟨rfl, hb6⟩)
      have hb7 : Below W0.heap.size W0 w3 := hb5.trans (hb6.mono hb5.size)
      clear hb5 hb6 k0 k1 k2 m0 m1 m2 SD0
      go_upto_region 8 with (go_at_call 8; (with_reducible refine (RS.out _ (HB.out _ hb7)).mono ?_); rintro e w5 ⟨hb8, rfl⟩)
      obtain ⟨W5, hW5⟩ : ∃ W5, W5 = w5.alloc (.cells #[.slice none 0 0, .slice none 0 0, .slice none 0 0] 26) := ⟨_, rfl⟩
      have hb9 : Below W0.heap.size W0 W5 := by rw [hW5]; exact (hb7.trans (hb8.mono hb7.size)).alloc (hb7.trans (hb8.mono hb7.size)).size _
      rw [← hW5]
      clear hW5 hb7 hb8
      go_wp2_with (go_at_call 9; (with_reducible refine (BG.out _ (HB.out _ hb9)).mono ?_); rintro e w6 ⟨rfl, hb10⟩)
      go_ret
      exact ⟨rfl, HB.out _ (hb9.trans (hb10.mono hb9.size))⟩
    · have hg : (decide (n = 0) && decide ((T.size : Int) ≤ 4096)) = false := by
        rcases Classical.em (n = 0) with h | h
        · have : ¬ T.size ≤ 4096 := fun q => hA ⟨h, q⟩
          rw [decide_eq_false (p := (T.size : Int) ≤ 4096) (by omega), Bool.and_false]
        · rw [decide_eq_false h, Bool.false_and]
      by_cases h0 : n = 0
      · subst h0
        have g1 : decide ((T.size : Int) ≤ 4096) = false := by simpa using hg
        clear hg hA RT
        go_upto_region 6 with fail
        have hb7 : Below W0.heap.size W0 w1 := hb1
        clear hb1
        go_upto_region 8 with (go_at_call 8; (with_reducible refine (RS.out _ (HB.out _ hb7)).mono ?_); rintro e w5 ⟨hb8, rfl⟩)
        obtain ⟨W5, hW5⟩ : ∃ W5, W5 = w5.alloc (.cells #[.slice none 0 0, .slice none 0 0, .slice none 0 0] 26) := ⟨_, rfl⟩
        have hb9 : Below W0.heap.size W0 W5 := by rw [hW5]; exact (hb7.trans (hb8.mono hb7.size)).alloc (hb7.trans (hb8.mono hb7.size)).size _
        rw [← hW5]
        clear hW5 hb7 hb8
        go_wp2_with (go_at_call 9; (with_reducible refine (BG.out _ (HB.out _ hb9)).mono ?_); rintro e w6 ⟨rfl, hb10⟩)
        go_ret
        exact ⟨rfl, HB.out _ (hb9.trans (hb10.mono hb9.size))⟩
      · have g1 : decide (n = 0) = false := decide_eq_false h0
        clear hg hA RT
        go_upto_region 6 with fail
        have hb7 : Below W0.heap.size W0 w1 := hb1
        clear hb1
        go_upto_region 8 with (go_at_call 8; (with_reducible refine (RS.out _ (HB.out _ hb7)).mono ?_); rintro e w5 ⟨hb8, rfl⟩)
        obtain ⟨W5, hW5⟩ : ∃ W5, W5 = w5.alloc (.cells #[.slice none 0 0, .slice none 0 0, .slice none 0 0] 26) := ⟨_, rfl⟩
        have hb9 : Below W0.heap.size W0 W5 := by rw [hW5]; exact (hb7.trans (hb8.mono hb7.size)).alloc (hb7.trans (hb8.mono hb7.size)).size _
        rw [← hW5]
        clear hW5 hb7 hb8
        go_wp2_with (go_at_call 9; (with_reducible refine (BG.out _ (HB.out _ hb9)).mono ?_); rintro e w6 ⟨rfl, hb10⟩)
        go_ret
        exact ⟨rfl, HB.out _ (hb9.trans (hb10.mono hb9.size))⟩
  cases hr : readC s.data.toList with
  | none =>
    have RS : Hid (∀ W, Below w.heap.size w W → Calls Tryz.prog 8 #[.string s] W fun e w' => Below W.heap.size W w' ∧ e = .returned (.tuple #[.agg #[.slice none 0 0, .slice none 0 0, .slice none 0 0], .int .i64 1])) := Lib.hid fun W hW => read_no hr (by omega) W (HM.out W hW)
    clear hlong HM HDA hr
    go_enter Tryz.func4, Tryz.ntmps4
    go_upto_region 1 with fail
    rw [HW0.out]
    clear HW0
    obtain ⟨m0, m1, m2⟩ := HX.out W0 (Below.refl _ _)
    go_upto_region 2 with (go_at_call 5; (with_reducible refine (CS.out _ (HB.out _ (Below.refl _ _))).mono ?_); rintro e w1 ⟨rfl, hb1⟩)
    clear m0 m1 m2 CS
    by_cases hA : n = 0 ∧ T.size ≤ 4096
    · obtain ⟨h0, h1⟩ := hA
      have RT0 := Lib.hid (RT.out h0 h1)
      subst h0
      have g1 : decide ((T.size : Int) ≤ 4096) = true := decide_eq_true (by omega)
      clear h1 RT
      go_upto_region 4 with (go_at_call 8; (with_reducible refine (RT0.out _ (HB.out _ hb1)).mono ?_); rintro e w2 ⟨hb2, d1, rfl, hD1, hcn1, hco1⟩)
      have hb3 : Below W0.heap.size W0 w2 := hb1.trans (hb2.mono hb1.size)
      clear hb1 hb2
      obtain ⟨W2, hW2⟩ : ∃ W2, W2 = w2.alloc (.cells #[.slice d1.sA d1.sn d1.sc, .slice d1.zA d1.zn d1.zc, .slice d1.lA d1.ln d1.lc] 26) := ⟨_, rfl⟩
      have hb4 : Below w2.heap.size w2 W2 := by rw [hW2]; exact (Below.refl _ _).alloc (Nat.le_refl _) _
      have hx2 : XAt w2.heap.size (.slice d1.sA d1.sn d1.sc) (.slice d1.zA d1.zn d1.zc) (.slice d1.lA d1.ln d1.lc) W2 := by rw [hW2]; exact World.alloc_heap_new _ _
      unfold XAt at hx2
      have k0 : W2.cell? ⟨w2.heap.size, 0, none⟩ = some (.slice d1.sA d1.sn d1.sc) := cell_of hx2 rfl
      have k1 : W2.cell? ⟨w2.heap.size, 1, none⟩ = some (.slice d1.zA d1.zn d1.zc) := cell_of hx2 rfl
      have k2 : W2.cell? ⟨w2.heap.size, 2, none⟩ = some (.slice d1.lA d1.ln d1.lc) := cell_of hx2 rfl
      have hb5 : Below W0.heap.size W0 W2 := hb3.trans (hb4.mono hb3.size)
      obtain ⟨m0, m1, m2⟩ := HX.out W2 hb5
      have SD0 := Lib.hid (SD.out d1 W2 (HB.out _ hb5) (hD1.next hb4) hcn1 hco1)
      rw [← hW2]
      clear hW2 hb4 hx2 hb3 hD1 hcn1 hco1 SD RT0
      go_upto_region 6 with (go_at_call 10; (with_reducible refine SD0.out.mono ?_); rintro e w3 ⟨rfl, hb6⟩)
      have hb7 : Below W0.heap.size W0 w3 := hb5.trans (hb6.mono hb5.size)
      clear hb5 hb6 k0 k1 k2 m0 m1 m2 SD0
      go_upto_region 8 with (go_at_call 8; (with_reducible refine (RS.out _ (HB.out _ hb7)).mono ?_); rintro e w5 ⟨hb8, rfl⟩)
      obtain ⟨W5, hW5⟩ : ∃ W5, W5 = w5.alloc (.cells #[.slice none 0 0, .slice none 0 0, .slice none 0 0] 26) := ⟨_, rfl⟩
      have hb9 : Below W0.heap.size W0 W5 := by rw [hW5]; exact (hb7.trans (hb8.mono hb7.size)).alloc (hb7.trans (hb8.mono hb7.size)).size _
      rw [← hW5]
      clear hW5 hb7 hb8
      go_wp2_with (go_at_call 9; (with_reducible refine (BG.out _ (HB.out _ hb9)).mono ?_); rintro e w6 ⟨rfl, hb10⟩)
      go_ret
      exact ⟨rfl, HB.out _ (hb9.trans (hb10.mono hb9.size))⟩
    · have hg : (decide (n = 0) && decide ((T.size : Int) ≤ 4096)) = false := by
        rcases Classical.em (n = 0) with h | h
        · have : ¬ T.size ≤ 4096 := fun q => hA ⟨h, q⟩
          rw [decide_eq_false (p := (T.size : Int) ≤ 4096) (by omega), Bool.and_false]
        · rw [decide_eq_false h, Bool.false_and]
      by_cases h0 : n = 0
      · subst h0
        have g1 : decide ((T.size : Int) ≤ 4096) = false := by simpa using hg
        clear hg hA RT
        go_upto_region 6 with fail
        have hb7 : Below W0.heap.size W0 w1 := hb1
        clear hb1
        go_upto_region 8 with (go_at_call 8; (with_reducible refine (RS.out _ (HB.out _ hb7)).mono ?_); rintro e w5 ⟨hb8, rfl⟩)
        obtain ⟨W5, hW5⟩ : ∃ W5, W5 = w5.alloc (.cells #[.slice none 0 0, .slice none 0 0, .slice none 0 0] 26) := ⟨_, rfl⟩
        have hb9 : Below W0.heap.size W0 W5 := by rw [hW5]; exact (hb7.trans (hb8.mono hb7.size)).alloc (hb7.trans (hb8.mono hb7.size)).size _
        rw [← hW5]
        clear hW5 hb7 hb8
        go_wp2_with (go_at_call 9; (with_reducible refine (BG.out _ (HB.out _ hb9)).mono ?_); rintro e w6 ⟨rfl, hb10⟩)
        go_ret
        exact ⟨rfl, HB.out _ (hb9.trans (hb10.mono hb9.size))⟩
      · have g1 : decide (n = 0) = false := decide_eq_false h0
        clear hg hA RT
        go_upto_region 6 with fail
        have hb7 : Below W0.heap.size W0 w1 := hb1
        clear hb1
        go_upto_region 8 with (go_at_call 8; (with_reducible refine (RS.out _ (HB.out _ hb7)).mono ?_); rintro e w5 ⟨hb8, rfl⟩)
        obtain ⟨W5, hW5⟩ : ∃ W5, W5 = w5.alloc (.cells #[.slice none 0 0, .slice none 0 0, .slice none 0 0] 26) := ⟨_, rfl⟩
        have hb9 : Below W0.heap.size W0 W5 := by rw [hW5]; exact (hb7.trans (hb8.mono hb7.size)).alloc (hb7.trans (hb8.mono hb7.size)).size _
        rw [← hW5]
        clear hW5 hb7 hb8
        go_wp2_with (go_at_call 9; (with_reducible refine (BG.out _ (HB.out _ hb9)).mono ?_); rintro e w6 ⟨rfl, hb10⟩)
        go_ret
        exact ⟨rfl, HB.out _ (hb9.trans (hb10.mono hb9.size))⟩
  | some c =>
    have RS : Hid (∀ W, Below w.heap.size w W → Calls Tryz.prog 8 #[.string s] W fun e w' => Below W.heap.size W w' ∧ ∃ d' : Dt, e = .returned (.tuple #[.agg #[.slice d'.sA d'.sn d'.sc, .slice d'.zA d'.zn d'.zc, .slice d'.lA d'.ln d'.lc], .int .i64 0]) ∧ DataAt w' w'.heap.size d' ∧ cnOf d' = c ∧ Cons d') := Lib.hid fun W hW => read_yes hr (by omega) W (HM.out W hW)
    have HR := Lib.hid (fun d' (h1 : cnOf d' = c) (h2 : Cons d') => read_shew hr h1 h2)
    have SS : Hid (∀ d' W, Below w.heap.size w W → DataAt W W.heap.size d' → cnOf d' = c → Cons d' → Calls Tryz.prog 5 #[.agg #[.slice d'.sA d'.sn d'.sc, .slice d'.zA d'.zn d'.zc, .slice d'.lA d'.ln d'.lc]] W fun e w' => e = .returned (.tuple #[.string s, .int .i64 0]) ∧ Below W.heap.size W w') := Lib.hid fun d' W hW h1 h2 h3 => by
      have := show_any d' W h1 (HM.out W hW)
      rw [(HR.out d' h2 h3).1, (HR.out d' h2 h3).2] at this
      exact this
    clear hlong HM HDA hr HR
    go_enter Tryz.func4, Tryz.ntmps4
    go_upto_region 1 with fail
    rw [HW0.out]
    clear HW0
    obtain ⟨m0, m1, m2⟩ := HX.out W0 (Below.refl _ _)
    go_upto_region 2 with (go_at_call 5; (with_reducible refine (CS.out _ (HB.out _ (Below.refl _ _))).mono ?_); rintro e w1 ⟨rfl, hb1⟩)
    clear m0 m1 m2 CS
    by_cases hA : n = 0 ∧ T.size ≤ 4096
    · obtain ⟨h0, h1⟩ := hA
      have RT0 := Lib.hid (RT.out h0 h1)
      subst h0
      have g1 : decide ((T.size : Int) ≤ 4096) = true := decide_eq_true (by omega)
      clear h1 RT
      go_upto_region 4 with (go_at_call 8; (with_reducible refine (RT0.out _ (HB.out _ hb1)).mono ?_); rintro e w2 ⟨hb2, d1, rfl, hD1, hcn1, hco1⟩)
      have hb3 : Below W0.heap.size W0 w2 := hb1.trans (hb2.mono hb1.size)
      clear hb1 hb2
      obtain ⟨W2, hW2⟩ : ∃ W2, W2 = w2.alloc (.cells #[.slice d1.sA d1.sn d1.sc, .slice d1.zA d1.zn d1.zc, .slice d1.lA d1.ln d1.lc] 26) := ⟨_, rfl⟩
      have hb4 : Below w2.heap.size w2 W2 := by rw [hW2]; exact (Below.refl _ _).alloc (Nat.le_refl _) _
      have hx2 : XAt w2.heap.size (.slice d1.sA d1.sn d1.sc) (.slice d1.zA d1.zn d1.zc) (.slice d1.lA d1.ln d1.lc) W2 := by rw [hW2]; exact World.alloc_heap_new _ _
      unfold XAt at hx2
      have k0 : W2.cell? ⟨w2.heap.size, 0, none⟩ = some (.slice d1.sA d1.sn d1.sc) := cell_of hx2 rfl
      have k1 : W2.cell? ⟨w2.heap.size, 1, none⟩ = some (.slice d1.zA d1.zn d1.zc) := cell_of hx2 rfl
      have k2 : W2.cell? ⟨w2.heap.size, 2, none⟩ = some (.slice d1.lA d1.ln d1.lc) := cell_of hx2 rfl
      have hb5 : Below W0.heap.size W0 W2 := hb3.trans (hb4.mono hb3.size)
      obtain ⟨m0, m1, m2⟩ := HX.out W2 hb5
      have SD0 := Lib.hid (SD.out d1 W2 (HB.out _ hb5) (hD1.next hb4) hcn1 hco1)
      rw [← hW2]
      clear hW2 hb4 hx2 hb3 hD1 hcn1 hco1 SD RT0
      go_upto_region 6 with (go_at_call 10; (with_reducible refine SD0.out.mono ?_); rintro e w3 ⟨rfl, hb6⟩)
      have hb7 : Below W0.heap.size W0 w3 := hb5.trans (hb6.mono hb5.size)
      clear hb5 hb6 k0 k1 k2 m0 m1 m2 SD0
      go_upto_region 9 with (go_at_call 8; (with_reducible refine (RS.out _ (HB.out _ hb7)).mono ?_); rintro e w5 ⟨hb8, d2, rfl, hD2, hcn2, hco2⟩)
      obtain ⟨W5, hW5⟩ : ∃ W5, W5 = w5.alloc (.cells #[.slice d2.sA d2.sn d2.sc, .slice d2.zA d2.zn d2.zc, .slice d2.lA d2.ln d2.lc] 26) := ⟨_, rfl⟩
      have hb9 : Below W0.heap.size W0 W5 := by rw [hW5]; exact (hb7.trans (hb8.mono hb7.size)).alloc (hb7.trans (hb8.mono hb7.size)).size _
      have hba : Below w5.heap.size w5 W5 := by rw [hW5]; exact (Below.refl _ _).alloc (Nat.le_refl _) _
      have hx5 : XAt w5.heap.size (.slice d2.sA d2.sn d2.sc) (.slice d2.zA d2.zn d2.zc) (.slice d2.lA d2.ln d2.lc) W5 := by rw [hW5]; exact World.alloc_heap_new _ _
      unfold XAt at hx5
      have k0 : W5.cell? ⟨w5.heap.size, 0, none⟩ = some (.slice d2.sA d2.sn d2.sc) := cell_of hx5 rfl
      have k1 : W5.cell? ⟨w5.heap.size, 1, none⟩ = some (.slice d2.zA d2.zn d2.zc) := cell_of hx5 rfl
      have k2 : W5.cell? ⟨w5.heap.size, 2, none⟩ = some (.slice d2.lA d2.ln d2.lc) := cell_of hx5 rfl
      have SS0 := Lib.hid (SS.out d2 W5 (HB.out _ hb9) (hD2.next hba) hcn2 hco2)
      rw [← hW5]
      clear hW5 hb7 hb8 hba hx5 hD2 hcn2 hco2
      go_upto_region 10 with (go_at_call 5; (with_reducible refine SS0.out.mono ?_); rintro e w6 ⟨rfl, hb10⟩)
      have hb11 : Below W0.heap.size W0 w6 := hb9.trans (hb10.mono hb9.size)
      clear hb9 hb10 k0 k1 k2 SS0
      go_wp2_with (go_at_call 9; (with_reducible refine (BG.out _ (HB.out _ hb11)).mono ?_); rintro e w7 ⟨rfl, hb12⟩)
      go_ret
      exact ⟨rfl, HB.out _ (hb11.trans (hb12.mono hb11.size))⟩
    · have hg : (decide (n = 0) && decide ((T.size : Int) ≤ 4096)) = false := by
        rcases Classical.em (n = 0) with h | h
        · have : ¬ T.size ≤ 4096 := fun q => hA ⟨h, q⟩
          rw [decide_eq_false (p := (T.size : Int) ≤ 4096) (by omega), Bool.and_false]
        · rw [decide_eq_false h, Bool.false_and]
      by_cases h0 : n = 0
      · subst h0
        have g1 : decide ((T.size : Int) ≤ 4096) = false := by simpa using hg
        clear hg hA RT
        go_upto_region 6 with fail
        have hb7 : Below W0.heap.size W0 w1 := hb1
        clear hb1
        go_upto_region 9 with (go_at_call 8; (with_reducible refine (RS.out _ (HB.out _ hb7)).mono ?_); rintro e w5 ⟨hb8, d2, rfl, hD2, hcn2, hco2⟩)
        obtain ⟨W5, hW5⟩ : ∃ W5, W5 = w5.alloc (.cells #[.slice d2.sA d2.sn d2.sc, .slice d2.zA d2.zn d2.zc, .slice d2.lA d2.ln d2.lc] 26) := ⟨_, rfl⟩
        have hb9 : Below W0.heap.size W0 W5 := by rw [hW5]; exact (hb7.trans (hb8.mono hb7.size)).alloc (hb7.trans (hb8.mono hb7.size)).size _
        have hba : Below w5.heap.size w5 W5 := by rw [hW5]; exact (Below.refl _ _).alloc (Nat.le_refl _) _
        have hx5 : XAt w5.heap.size (.slice d2.sA d2.sn d2.sc) (.slice d2.zA d2.zn d2.zc) (.slice d2.lA d2.ln d2.lc) W5 := by rw [hW5]; exact World.alloc_heap_new _ _
        unfold XAt at hx5
        have k0 : W5.cell? ⟨w5.heap.size, 0, none⟩ = some (.slice d2.sA d2.sn d2.sc) := cell_of hx5 rfl
        have k1 : W5.cell? ⟨w5.heap.size, 1, none⟩ = some (.slice d2.zA d2.zn d2.zc) := cell_of hx5 rfl
        have k2 : W5.cell? ⟨w5.heap.size, 2, none⟩ = some (.slice d2.lA d2.ln d2.lc) := cell_of hx5 rfl
        have SS0 := Lib.hid (SS.out d2 W5 (HB.out _ hb9) (hD2.next hba) hcn2 hco2)
        rw [← hW5]
        clear hW5 hb7 hb8 hba hx5 hD2 hcn2 hco2
        go_upto_region 10 with (go_at_call 5; (with_reducible refine SS0.out.mono ?_); rintro e w6 ⟨rfl, hb10⟩)
        have hb11 : Below W0.heap.size W0 w6 := hb9.trans (hb10.mono hb9.size)
        clear hb9 hb10 k0 k1 k2 SS0
        go_wp2_with (go_at_call 9; (with_reducible refine (BG.out _ (HB.out _ hb11)).mono ?_); rintro e w7 ⟨rfl, hb12⟩)
        go_ret
        exact ⟨rfl, HB.out _ (hb11.trans (hb12.mono hb11.size))⟩
      · have g1 : decide (n = 0) = false := decide_eq_false h0
        clear hg hA RT
        go_upto_region 6 with fail
        have hb7 : Below W0.heap.size W0 w1 := hb1
        clear hb1
        go_upto_region 9 with (go_at_call 8; (with_reducible refine (RS.out _ (HB.out _ hb7)).mono ?_); rintro e w5 ⟨hb8, d2, rfl, hD2, hcn2, hco2⟩)
        obtain ⟨W5, hW5⟩ : ∃ W5, W5 = w5.alloc (.cells #[.slice d2.sA d2.sn d2.sc, .slice d2.zA d2.zn d2.zc, .slice d2.lA d2.ln d2.lc] 26) := ⟨_, rfl⟩
        have hb9 : Below W0.heap.size W0 W5 := by rw [hW5]; exact (hb7.trans (hb8.mono hb7.size)).alloc (hb7.trans (hb8.mono hb7.size)).size _
        have hba : Below w5.heap.size w5 W5 := by rw [hW5]; exact (Below.refl _ _).alloc (Nat.le_refl _) _
        have hx5 : XAt w5.heap.size (.slice d2.sA d2.sn d2.sc) (.slice d2.zA d2.zn d2.zc) (.slice d2.lA d2.ln d2.lc) W5 := by rw [hW5]; exact World.alloc_heap_new _ _
        unfold XAt at hx5
        have k0 : W5.cell? ⟨w5.heap.size, 0, none⟩ = some (.slice d2.sA d2.sn d2.sc) := cell_of hx5 rfl
        have k1 : W5.cell? ⟨w5.heap.size, 1, none⟩ = some (.slice d2.zA d2.zn d2.zc) := cell_of hx5 rfl
        have k2 : W5.cell? ⟨w5.heap.size, 2, none⟩ = some (.slice d2.lA d2.ln d2.lc) := cell_of hx5 rfl
        have SS0 := Lib.hid (SS.out d2 W5 (HB.out _ hb9) (hD2.next hba) hcn2 hco2)
        rw [← hW5]
        clear hW5 hb7 hb8 hba hx5 hD2 hcn2 hco2
        go_upto_region 10 with (go_at_call 5; (with_reducible refine SS0.out.mono ?_); rintro e w6 ⟨rfl, hb10⟩)
        have hb11 : Below W0.heap.size W0 w6 := hb9.trans (hb10.mono hb9.size)
        clear hb9 hb10 k0 k1 k2 SS0
        go_wp2_with (go_at_call 9; (with_reducible refine (BG.out _ (HB.out _ hb11)).mono ?_); rintro e w7 ⟨rfl, hb12⟩)
        go_ret
        exact ⟨rfl, HB.out _ (hb11.trans (hb12.mono hb11.size))⟩
end Go.Proofs.YthhjgndaiimgjaaGreatDoor
end
