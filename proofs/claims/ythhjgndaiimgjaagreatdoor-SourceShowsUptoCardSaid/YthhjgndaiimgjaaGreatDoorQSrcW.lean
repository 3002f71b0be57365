/- SourceShows, walked. -/
import Derived.Test.YthhjgndaiimgjaaGreatDoorMUSrcB35
import Derived.Test.YthhjgndaiimgjaaGreatDoorQSgF
set_option linter.unusedSimpArgs false
set_option linter.unusedVariables false
set_option linter.unusedVariables false
set_option linter.unusedSimpArgs false
set_option maxRecDepth 100000
namespace Go.Proofs.YthhjgndaiimgjaaGreatDoor
open Go.RowKit Gno
attribute [local go_sem] Oper.semAt_some
theorem from_yes {s : ByteArray} {c : Cn} (hr : readC s.data.toList = some c) (hs : s.size ≤ 4096) (w : World) :
    Calls Tryz.prog 11 #[.string s] w fun e w' => Below w.heap.size w w' ∧ ∃ d : Dt, e = .returned (.tuple #[.agg #[.slice d.sA d.sn d.sc, .slice d.zA d.zn d.zc, .slice d.lA d.ln d.lc], .bool true]) ∧ DataAt w' w'.heap.size d ∧ cnOf d = c ∧ Cons d := by
  refine (from_any s w hs).mono fun e w' h => ⟨h.1, ?_⟩
  have h2 := h.2
  unfold FromE at h2
  rw [hr] at h2
  exact h2
theorem from_no {s : ByteArray} (hr : readC s.data.toList = none) (hs : s.size ≤ 4096) (w : World) :
    Calls Tryz.prog 11 #[.string s] w fun e w' => Below w.heap.size w w' ∧ e = .returned (.tuple #[.agg #[.slice none 0 0, .slice none 0 0, .slice none 0 0], .bool false]) := by
  refine (from_any s w hs).mono fun e w' h => ⟨h.1, ?_⟩
  have h2 := h.2
  unfold FromE at h2
  rw [hr] at h2
  exact h2
set_option maxHeartbeats 8000000 in
theorem sourceShows_walk (d : Dt) (s : ByteArray) (w : World) (hD : DataAt w w.heap.size d) (hm : SMet w w.heap.size) :
    Calls Tryz.prog 3 #[d.val, .string s] w fun e w' => e = .returned (.bool true) ∧ Below w.heap.size w w' := by
  have HDA : Hid (∀ W, Below w.heap.size w W → DataAt W W.heap.size d) := Lib.hid fun W hW => hD.next hW
  have HM : Hid (∀ W, Below w.heap.size w W → SMet W W.heap.size) := Lib.hid fun W hW => hm.next hW
  obtain ⟨T, hT⟩ : ∃ T, T = shewT d := ⟨_, rfl⟩
  obtain ⟨n, hn⟩ : ∃ n, n = dataE d := ⟨_, rfl⟩
  have CS : Hid (∀ W, Below w.heap.size w W → Calls Tryz.prog 5 #[.agg #[.slice d.sA d.sn d.sc, .slice d.zA d.zn d.zc, .slice d.lA d.ln d.lc]] W fun e w' => e = .returned (.tuple #[.string T, .int .i64 n]) ∧ Below W.heap.size W w') := Lib.hid fun W hW => by
    rw [hT, hn]
    exact show_any d W (HDA.out W hW) (HM.out W hW)
  have CC : Hid (∀ W, Below w.heap.size w W → Calls Tryz.prog 6 #[.agg #[.slice d.sA d.sn d.sc, .slice d.zA d.zn d.zc, .slice d.lA d.ln d.lc]] W fun e w' => e = .returned (.int .i64 n) ∧ Below W.heap.size W w') := Lib.hid fun W hW => by
    rw [hn]
    exact checkData_any d W (HDA.out W hW)
  have CT : Hid (n = 0 → ∀ W, Below w.heap.size w W → Calls Tryz.prog 7 #[.agg #[.slice d.sA d.sn d.sc, .slice d.zA d.zn d.zc, .slice d.lA d.ln d.lc]] W fun e w' => e = .returned (.string T) ∧ Below W.heap.size W w') := Lib.hid fun h0 W hW => by
    have := dataText_any d W (HDA.out W hW) (showOk_of (hn.symm.trans h0))
    rw [hT]
    unfold shewT
    rw [if_pos (hn.symm.trans h0)]
    exact this
  have HTE : Hid (n ≠ 0 → T = ⟨#[]⟩) := Lib.hid fun h0 => by
    rw [hT]
    unfold shewT
    rw [if_neg (fun e => h0 (hn.trans e))]
  have BG : Hid (∀ W, Below w.heap.size w W → Calls Tryz.prog 9 #[] W fun e w' => e = .returned (.bool true) ∧ Below W.heap.size W w') := Lib.hid fun W hW => sourceBegun_any W (HM.out W hW)
  have S0 : Hid (∀ W, Calls Tryz.prog 10 #[.agg #[.slice none 0 0, .slice none 0 0, .slice none 0 0], .agg #[.slice none 0 0, .slice none 0 0, .slice none 0 0]] W fun e w' => e = .returned (.bool true) ∧ Below W.heap.size W w') := Lib.hid fun W => sameData_any dt0 dt0 W (dt0_at _ _) (dt0_at _ _) (same_of rfl dt0_cons dt0_cons)
  unfold Dt.val
  obtain ⟨W0, hW0⟩ : ∃ W0, W0 = w.alloc (.cells #[.slice d.sA d.sn d.sc, .slice d.zA d.zn d.zc, .slice d.lA d.ln d.lc] 26) := ⟨_, rfl⟩
  have hx0 : XAt w.heap.size (.slice d.sA d.sn d.sc) (.slice d.zA d.zn d.zc) (.slice d.lA d.ln d.lc) W0 := by rw [hW0]; exact World.alloc_heap_new _ _
  have hb0 : Below w.heap.size w W0 := by rw [hW0]; exact (Below.refl _ _).alloc (Nat.le_refl _) _
  have HW0 := Lib.hid hW0.symm
  have HX : Hid (∀ W, Below W0.heap.size W0 W → W.cell? ⟨w.heap.size, 0, none⟩ = some (.slice d.sA d.sn d.sc) ∧ W.cell? ⟨w.heap.size, 1, none⟩ = some (.slice d.zA d.zn d.zc) ∧ W.cell? ⟨w.heap.size, 2, none⟩ = some (.slice d.lA d.ln d.lc)) := Lib.hid fun W hW => by
    have h := hx0.below hW
    unfold XAt at h
    exact ⟨cell_of h rfl, cell_of h rfl, cell_of h rfl⟩
  have HB : Hid (∀ W, Below W0.heap.size W0 W → Below w.heap.size w W) := Lib.hid fun W hW => hb0.trans (hW.mono hb0.size)
  clear hD hm hT hn hW0 hx0 hb0
  by_cases hlong : 4096 < s.size
  · have RS : Hid (∀ W, Below w.heap.size w W → Calls Tryz.prog 8 #[.string s] W fun e w' => Below W.heap.size W w' ∧ e = .returned (.tuple #[.agg #[.slice none 0 0, .slice none 0 0, .slice none 0 0], .int .i64 2])) := Lib.hid fun W hW => read_long hlong W (HM.out W hW)
    have gl : decide ((4096 : Int) < (s.size : Int)) = true := decide_eq_true (by omega)
    clear hlong HM HDA
    go_enter Tryz.func3, Tryz.ntmps3
    go_upto_region 1 with fail
    rw [HW0.out]
    clear HW0
    obtain ⟨m0, m1, m2⟩ := HX.out W0 (Below.refl _ _)
    go_upto_region 2 with (go_at_call 5; (with_reducible refine (CS.out _ (HB.out _ (Below.refl _ _))).mono ?_); rintro e w1 ⟨rfl, hb1⟩)
    clear m0 m1 m2 CS
    obtain ⟨m0, m1, m2⟩ := HX.out w1 hb1
    go_upto_region 4 with (go_at_call 6; (with_reducible refine (CC.out _ (HB.out _ hb1)).mono ?_); rintro e w2 ⟨rfl, hb2⟩)
    have hb3 : Below W0.heap.size W0 w2 := hb1.trans (hb2.mono hb1.size)
    clear m0 m1 m2 CC hb1 hb2
    obtain ⟨m0, m1, m2⟩ := HX.out w2 hb3
    by_cases h0 : n = 0
    · have CT0 := Lib.hid (CT.out h0)
      subst h0
      clear CT HTE
      go_upto_region 6 with (go_at_call 7; (with_reducible refine (CT0.out _ (HB.out _ hb3)).mono ?_); rintro e w3 ⟨rfl, hb4⟩)
      have hb7 : Below W0.heap.size W0 w3 := hb3.trans (hb4.mono hb3.size)
      clear m0 m1 m2 CT0 hb3 hb4
      go_upto_region 7 with (go_at_call 8; (with_reducible refine (RS.out _ (HB.out _ hb7)).mono ?_); rintro e w5 ⟨hb8, rfl⟩)
      obtain ⟨W5, hW5⟩ : ∃ W5, W5 = w5.alloc (.cells #[.slice none 0 0, .slice none 0 0, .slice none 0 0] 26) := ⟨_, rfl⟩
      have hb9 : Below W0.heap.size W0 W5 := by rw [hW5]; exact (hb7.trans (hb8.mono hb7.size)).alloc (hb7.trans (hb8.mono hb7.size)).size _
      have hba : Below w5.heap.size w5 W5 := by rw [hW5]; exact (Below.refl _ _).alloc (Nat.le_refl _) _
      have hx5 : XAt w5.heap.size (.slice none 0 0) (.slice none 0 0) (.slice none 0 0) W5 := by rw [hW5]; exact World.alloc_heap_new _ _
      have HX5 : Hid (∀ W, Below W5.heap.size W5 W → W.cell? ⟨w5.heap.size, 0, none⟩ = some (.slice none 0 0) ∧ W.cell? ⟨w5.heap.size, 1, none⟩ = some (.slice none 0 0) ∧ W.cell? ⟨w5.heap.size, 2, none⟩ = some (.slice none 0 0)) := Lib.hid fun W hW => by
        have h := hx5.below hW
        unfold XAt at h
        exact ⟨cell_of h rfl, cell_of h rfl, cell_of h rfl⟩
      rw [← hW5]
      clear hW5 hb7 hb8 hba hx5 RS
      go_wp2_with (first
        | (go_at_call 9; (with_reducible refine (BG.out _ (HB.out _ hb9)).mono ?_); rintro e w6 ⟨rfl, hb10⟩; obtain ⟨n0, n1, n2⟩ := HX5.out w6 hb10)
        | (go_at_call 10; (with_reducible refine (S0.out _).mono ?_); rintro e w7 ⟨rfl, hb11⟩))
      go_ret
      exact ⟨rfl, HB.out _ (hb9.trans ((hb10.trans (hb11.mono hb10.size)).mono hb9.size))⟩
    · have hte := HTE.out h0
      have g1 : decide (n = 0) = false := decide_eq_false h0
      subst hte
      clear CT HTE
      go_upto_region 6 with fail
      have hb7 : Below W0.heap.size W0 w2 := hb3
      clear m0 m1 m2 hb3
      go_upto_region 7 with (go_at_call 8; (with_reducible refine (RS.out _ (HB.out _ hb7)).mono ?_); rintro e w5 ⟨hb8, rfl⟩)
      obtain ⟨W5, hW5⟩ : ∃ W5, W5 = w5.alloc (.cells #[.slice none 0 0, .slice none 0 0, .slice none 0 0] 26) := ⟨_, rfl⟩
      have hb9 : Below W0.heap.size W0 W5 := by rw [hW5]; exact (hb7.trans (hb8.mono hb7.size)).alloc (hb7.trans (hb8.mono hb7.size)).size _
      have hba : Below w5.heap.size w5 W5 := by rw [hW5]; exact (Below.refl _ _).alloc (Nat.le_refl _) _
      have hx5 : XAt w5.heap.size (.slice none 0 0) (.slice none 0 0) (.slice none 0 0) W5 := by rw [hW5]; exact World.alloc_heap_new _ _
      have HX5 : Hid (∀ W, Below W5.heap.size W5 W → W.cell? ⟨w5.heap.size, 0, none⟩ = some (.slice none 0 0) ∧ W.cell? ⟨w5.heap.size, 1, none⟩ = some (.slice none 0 0) ∧ W.cell? ⟨w5.heap.size, 2, none⟩ = some (.slice none 0 0)) := Lib.hid fun W hW => by
        have h := hx5.below hW
        unfold XAt at h
        exact ⟨cell_of h rfl, cell_of h rfl, cell_of h rfl⟩
      rw [← hW5]
      clear hW5 hb7 hb8 hba hx5 RS
      go_wp2_with (first
        | (go_at_call 9; (with_reducible refine (BG.out _ (HB.out _ hb9)).mono ?_); rintro e w6 ⟨rfl, hb10⟩; obtain ⟨n0, n1, n2⟩ := HX5.out w6 hb10)
        | (go_at_call 10; (with_reducible refine (S0.out _).mono ?_); rintro e w7 ⟨rfl, hb11⟩))
      go_ret
      exact ⟨rfl, HB.out _ (hb9.trans ((hb10.trans (hb11.mono hb10.size)).mono hb9.size))⟩
  have gl : decide ((4096 : Int) < (s.size : Int)) = false := decide_eq_false (by omega)
  cases hr : readC s.data.toList with
  | none =>
    have RS : Hid (∀ W, Below w.heap.size w W → Calls Tryz.prog 8 #[.string s] W fun e w' => Below W.heap.size W w' ∧ e = .returned (.tuple #[.agg #[.slice none 0 0, .slice none 0 0, .slice none 0 0], .int .i64 1])) := Lib.hid fun W hW => read_no hr (by omega) W (HM.out W hW)
    have RF : Hid (∀ W, Calls Tryz.prog 11 #[.string s] W fun e w' => Below W.heap.size W w' ∧ e = .returned (.tuple #[.agg #[.slice none 0 0, .slice none 0 0, .slice none 0 0], .bool false])) := Lib.hid fun W => from_no hr (by omega) W
    clear hlong HM HDA hr
    go_enter Tryz.func3, Tryz.ntmps3
    go_upto_region 1 with fail
    rw [HW0.out]
    clear HW0
    obtain ⟨m0, m1, m2⟩ := HX.out W0 (Below.refl _ _)
    go_upto_region 2 with (go_at_call 5; (with_reducible refine (CS.out _ (HB.out _ (Below.refl _ _))).mono ?_); rintro e w1 ⟨rfl, hb1⟩)
    clear m0 m1 m2 CS
    obtain ⟨m0, m1, m2⟩ := HX.out w1 hb1
    go_upto_region 4 with (go_at_call 6; (with_reducible refine (CC.out _ (HB.out _ hb1)).mono ?_); rintro e w2 ⟨rfl, hb2⟩)
    have hb3 : Below W0.heap.size W0 w2 := hb1.trans (hb2.mono hb1.size)
    clear m0 m1 m2 CC hb1 hb2
    obtain ⟨m0, m1, m2⟩ := HX.out w2 hb3
    by_cases h0 : n = 0
    · have CT0 := Lib.hid (CT.out h0)
      subst h0
      clear CT HTE
      go_upto_region 6 with (go_at_call 7; (with_reducible refine (CT0.out _ (HB.out _ hb3)).mono ?_); rintro e w3 ⟨rfl, hb4⟩)
      have hb7 : Below W0.heap.size W0 w3 := hb3.trans (hb4.mono hb3.size)
      clear m0 m1 m2 CT0 hb3 hb4
      go_upto_region 7 with (go_at_call 8; (with_reducible refine (RS.out _ (HB.out _ hb7)).mono ?_); rintro e w5 ⟨hb8, rfl⟩)
      obtain ⟨W5, hW5⟩ : ∃ W5, W5 = w5.alloc (.cells #[.slice none 0 0, .slice none 0 0, .slice none 0 0] 26) := ⟨_, rfl⟩
      have hb9 : Below W0.heap.size W0 W5 := by rw [hW5]; exact (hb7.trans (hb8.mono hb7.size)).alloc (hb7.trans (hb8.mono hb7.size)).size _
      have hba : Below w5.heap.size w5 W5 := by rw [hW5]; exact (Below.refl _ _).alloc (Nat.le_refl _) _
      have hx5 : XAt w5.heap.size (.slice none 0 0) (.slice none 0 0) (.slice none 0 0) W5 := by rw [hW5]; exact World.alloc_heap_new _ _
      have HX5 : Hid (∀ W, Below W5.heap.size W5 W → W.cell? ⟨w5.heap.size, 0, none⟩ = some (.slice none 0 0) ∧ W.cell? ⟨w5.heap.size, 1, none⟩ = some (.slice none 0 0) ∧ W.cell? ⟨w5.heap.size, 2, none⟩ = some (.slice none 0 0)) := Lib.hid fun W hW => by
        have h := hx5.below hW
        unfold XAt at h
        exact ⟨cell_of h rfl, cell_of h rfl, cell_of h rfl⟩
      rw [← hW5]
      clear hW5 hb7 hb8 hba hx5 RS
      go_upto_region 10 with (go_at_call 11; (with_reducible refine (RF.out _).mono ?_); rintro e w6 ⟨hb10, rfl⟩)
      obtain ⟨W6, hW6⟩ : ∃ W6, W6 = w6.alloc (.cells #[.slice none 0 0, .slice none 0 0, .slice none 0 0] 26) := ⟨_, rfl⟩
      have hc9 : Below W5.heap.size W5 W6 := by rw [hW6]; exact hb10.alloc hb10.size _
      have hca : Below w6.heap.size w6 W6 := by rw [hW6]; exact (Below.refl _ _).alloc (Nat.le_refl _) _
      have hx6 : XAt w6.heap.size (.slice none 0 0) (.slice none 0 0) (.slice none 0 0) W6 := by rw [hW6]; exact World.alloc_heap_new _ _
      have HX6 : Hid (∀ W, Below W6.heap.size W6 W → W.cell? ⟨w6.heap.size, 0, none⟩ = some (.slice none 0 0) ∧ W.cell? ⟨w6.heap.size, 1, none⟩ = some (.slice none 0 0) ∧ W.cell? ⟨w6.heap.size, 2, none⟩ = some (.slice none 0 0)) := Lib.hid fun W hW => by
        have h := hx6.below hW
        unfold XAt at h
        exact ⟨cell_of h rfl, cell_of h rfl, cell_of h rfl⟩
      have hd9 : Below W0.heap.size W0 W6 := hb9.trans (hc9.mono hb9.size)
      rw [← hW6]
      clear hW6 hb9 hb10 hca hx6 RF
      go_wp2_with (first
        | (go_at_call 9; (with_reducible refine (BG.out _ (HB.out _ hd9)).mono ?_); rintro e w7 ⟨rfl, hb11⟩; obtain ⟨n0, n1, n2⟩ := HX5.out w7 (hc9.trans (hb11.mono hc9.size)); obtain ⟨p0, p1, p2⟩ := HX6.out w7 hb11)
        | (go_at_call 10; (with_reducible refine (S0.out _).mono ?_); rintro e w8 ⟨rfl, hb12⟩))
      go_ret
      exact ⟨rfl, HB.out _ (hd9.trans ((hb11.trans (hb12.mono hb11.size)).mono hd9.size))⟩
    · have hte := HTE.out h0
      have g1 : decide (n = 0) = false := decide_eq_false h0
      subst hte
      clear CT HTE
      go_upto_region 6 with fail
      have hb7 : Below W0.heap.size W0 w2 := hb3
      clear m0 m1 m2 hb3
      go_upto_region 7 with (go_at_call 8; (with_reducible refine (RS.out _ (HB.out _ hb7)).mono ?_); rintro e w5 ⟨hb8, rfl⟩)
      obtain ⟨W5, hW5⟩ : ∃ W5, W5 = w5.alloc (.cells #[.slice none 0 0, .slice none 0 0, .slice none 0 0] 26) := ⟨_, rfl⟩
      have hb9 : Below W0.heap.size W0 W5 := by rw [hW5]; exact (hb7.trans (hb8.mono hb7.size)).alloc (hb7.trans (hb8.mono hb7.size)).size _
      have hba : Below w5.heap.size w5 W5 := by rw [hW5]; exact (Below.refl _ _).alloc (Nat.le_refl _) _
      have hx5 : XAt w5.heap.size (.slice none 0 0) (.slice none 0 0) (.slice none 0 0) W5 := by rw [hW5]; exact World.alloc_heap_new _ _
      have HX5 : Hid (∀ W, Below W5.heap.size W5 W → W.cell? ⟨w5.heap.size, 0, none⟩ = some (.slice none 0 0) ∧ W.cell? ⟨w5.heap.size, 1, none⟩ = some (.slice none 0 0) ∧ W.cell? ⟨w5.heap.size, 2, none⟩ = some (.slice none 0 0)) := Lib.hid fun W hW => by
        have h := hx5.below hW
        unfold XAt at h
        exact ⟨cell_of h rfl, cell_of h rfl, cell_of h rfl⟩
      rw [← hW5]
      clear hW5 hb7 hb8 hba hx5 RS
      go_upto_region 10 with (go_at_call 11; (with_reducible refine (RF.out _).mono ?_); rintro e w6 ⟨hb10, rfl⟩)
      obtain ⟨W6, hW6⟩ : ∃ W6, W6 = w6.alloc (.cells #[.slice none 0 0, .slice none 0 0, .slice none 0 0] 26) := ⟨_, rfl⟩
      have hc9 : Below W5.heap.size W5 W6 := by rw [hW6]; exact hb10.alloc hb10.size _
      have hca : Below w6.heap.size w6 W6 := by rw [hW6]; exact (Below.refl _ _).alloc (Nat.le_refl _) _
      have hx6 : XAt w6.heap.size (.slice none 0 0) (.slice none 0 0) (.slice none 0 0) W6 := by rw [hW6]; exact World.alloc_heap_new _ _
      have HX6 : Hid (∀ W, Below W6.heap.size W6 W → W.cell? ⟨w6.heap.size, 0, none⟩ = some (.slice none 0 0) ∧ W.cell? ⟨w6.heap.size, 1, none⟩ = some (.slice none 0 0) ∧ W.cell? ⟨w6.heap.size, 2, none⟩ = some (.slice none 0 0)) := Lib.hid fun W hW => by
        have h := hx6.below hW
        unfold XAt at h
        exact ⟨cell_of h rfl, cell_of h rfl, cell_of h rfl⟩
      have hd9 : Below W0.heap.size W0 W6 := hb9.trans (hc9.mono hb9.size)
      rw [← hW6]
      clear hW6 hb9 hb10 hca hx6 RF
      go_wp2_with (first
        | (go_at_call 9; (with_reducible refine (BG.out _ (HB.out _ hd9)).mono ?_); rintro e w7 ⟨rfl, hb11⟩; obtain ⟨n0, n1, n2⟩ := HX5.out w7 (hc9.trans (hb11.mono hc9.size)); obtain ⟨p0, p1, p2⟩ := HX6.out w7 hb11)
        | (go_at_call 10; (with_reducible refine (S0.out _).mono ?_); rintro e w8 ⟨rfl, hb12⟩))
      go_ret
      exact ⟨rfl, HB.out _ (hd9.trans ((hb11.trans (hb12.mono hb11.size)).mono hd9.size))⟩
  | some c =>
    have RS : Hid (∀ W, Below w.heap.size w W → Calls Tryz.prog 8 #[.string s] W fun e w' => Below W.heap.size W w' ∧ ∃ d' : Dt, e = .returned (.tuple #[.agg #[.slice d'.sA d'.sn d'.sc, .slice d'.zA d'.zn d'.zc, .slice d'.lA d'.ln d'.lc], .int .i64 0]) ∧ DataAt w' w'.heap.size d' ∧ cnOf d' = c ∧ Cons d') := Lib.hid fun W hW => read_yes hr (by omega) W (HM.out W hW)
    have RF : Hid (∀ W, Calls Tryz.prog 11 #[.string s] W fun e w' => Below W.heap.size W w' ∧ ∃ d' : Dt, e = .returned (.tuple #[.agg #[.slice d'.sA d'.sn d'.sc, .slice d'.zA d'.zn d'.zc, .slice d'.lA d'.ln d'.lc], .bool true]) ∧ DataAt w' w'.heap.size d' ∧ cnOf d' = c ∧ Cons d') := Lib.hid fun W => from_yes hr (by omega) W
    clear hlong HM HDA hr
    go_enter Tryz.func3, Tryz.ntmps3
    go_upto_region 1 with fail
    rw [HW0.out]
    clear HW0
    obtain ⟨m0, m1, m2⟩ := HX.out W0 (Below.refl _ _)
    go_upto_region 2 with (go_at_call 5; (with_reducible refine (CS.out _ (HB.out _ (Below.refl _ _))).mono ?_); rintro e w1 ⟨rfl, hb1⟩)
    clear m0 m1 m2 CS
    obtain ⟨m0, m1, m2⟩ := HX.out w1 hb1
    go_upto_region 4 with (go_at_call 6; (with_reducible refine (CC.out _ (HB.out _ hb1)).mono ?_); rintro e w2 ⟨rfl, hb2⟩)
    have hb3 : Below W0.heap.size W0 w2 := hb1.trans (hb2.mono hb1.size)
    clear m0 m1 m2 CC hb1 hb2
    obtain ⟨m0, m1, m2⟩ := HX.out w2 hb3
    by_cases h0 : n = 0
    · have CT0 := Lib.hid (CT.out h0)
      subst h0
      clear CT HTE
      go_upto_region 6 with (go_at_call 7; (with_reducible refine (CT0.out _ (HB.out _ hb3)).mono ?_); rintro e w3 ⟨rfl, hb4⟩)
      have hb7 : Below W0.heap.size W0 w3 := hb3.trans (hb4.mono hb3.size)
      clear m0 m1 m2 CT0 hb3 hb4
      go_upto_region 7 with (go_at_call 8; (with_reducible refine (RS.out _ (HB.out _ hb7)).mono ?_); rintro e w5 ⟨hb8, d2, rfl, hD2, hcn2, hco2⟩)
      obtain ⟨W5, hW5⟩ : ∃ W5, W5 = w5.alloc (.cells #[.slice d2.sA d2.sn d2.sc, .slice d2.zA d2.zn d2.zc, .slice d2.lA d2.ln d2.lc] 26) := ⟨_, rfl⟩
      have hb9 : Below W0.heap.size W0 W5 := by rw [hW5]; exact (hb7.trans (hb8.mono hb7.size)).alloc (hb7.trans (hb8.mono hb7.size)).size _
      have hba : Below w5.heap.size w5 W5 := by rw [hW5]; exact (Below.refl _ _).alloc (Nat.le_refl _) _
      have hx5 : XAt w5.heap.size (.slice d2.sA d2.sn d2.sc) (.slice d2.zA d2.zn d2.zc) (.slice d2.lA d2.ln d2.lc) W5 := by rw [hW5]; exact World.alloc_heap_new _ _
      have HX5 : Hid (∀ W, Below W5.heap.size W5 W → W.cell? ⟨w5.heap.size, 0, none⟩ = some (.slice d2.sA d2.sn d2.sc) ∧ W.cell? ⟨w5.heap.size, 1, none⟩ = some (.slice d2.zA d2.zn d2.zc) ∧ W.cell? ⟨w5.heap.size, 2, none⟩ = some (.slice d2.lA d2.ln d2.lc)) := Lib.hid fun W hW => by
        have h := hx5.below hW
        unfold XAt at h
        exact ⟨cell_of h rfl, cell_of h rfl, cell_of h rfl⟩
      have HD2 := Lib.hid (hD2.next hba)
      rw [← hW5]
      clear hW5 hb7 hb8 hba hx5 hD2 RS
      go_upto_region 10 with (go_at_call 11; (with_reducible refine (RF.out _).mono ?_); rintro e w6 ⟨hb10, d3, rfl, hD3, hcn3, hco3⟩)
      obtain ⟨W6, hW6⟩ : ∃ W6, W6 = w6.alloc (.cells #[.slice d3.sA d3.sn d3.sc, .slice d3.zA d3.zn d3.zc, .slice d3.lA d3.ln d3.lc] 26) := ⟨_, rfl⟩
      have hc9 : Below W5.heap.size W5 W6 := by rw [hW6]; exact hb10.alloc hb10.size _
      have hca : Below w6.heap.size w6 W6 := by rw [hW6]; exact (Below.refl _ _).alloc (Nat.le_refl _) _
      have hx6 : XAt w6.heap.size (.slice d3.sA d3.sn d3.sc) (.slice d3.zA d3.zn d3.zc) (.slice d3.lA d3.ln d3.lc) W6 := by rw [hW6]; exact World.alloc_heap_new _ _
      have HX6 : Hid (∀ W, Below W6.heap.size W6 W → W.cell? ⟨w6.heap.size, 0, none⟩ = some (.slice d3.sA d3.sn d3.sc) ∧ W.cell? ⟨w6.heap.size, 1, none⟩ = some (.slice d3.zA d3.zn d3.zc) ∧ W.cell? ⟨w6.heap.size, 2, none⟩ = some (.slice d3.lA d3.ln d3.lc)) := Lib.hid fun W hW => by
        have h := hx6.below hW
        unfold XAt at h
        exact ⟨cell_of h rfl, cell_of h rfl, cell_of h rfl⟩
      have HSD : Hid (∀ W, Below W6.heap.size W6 W → Calls Tryz.prog 10 #[.agg #[.slice d2.sA d2.sn d2.sc, .slice d2.zA d2.zn d2.zc, .slice d2.lA d2.ln d2.lc], .agg #[.slice d3.sA d3.sn d3.sc, .slice d3.zA d3.zn d3.zc, .slice d3.lA d3.ln d3.lc]] W fun e w' => e = .returned (.bool true) ∧ Below W.heap.size W w') := Lib.hid fun W hW =>
        sameData_any d2 d3 W (HD2.out.next (hc9.trans (hW.mono hc9.size))) ((hD3.next hca).next hW) (same_of (hcn2.trans hcn3.symm) hco2 hco3)
      clear hD3 hcn2 hcn3 hco2 hco3 HD2
      have hd9 : Below W0.heap.size W0 W6 := hb9.trans (hc9.mono hb9.size)
      rw [← hW6]
      clear hW6 hb9 hb10 hca hx6 RF
      go_wp2_with (first
        | (go_at_call 9; (with_reducible refine (BG.out _ (HB.out _ hd9)).mono ?_); rintro e w7 ⟨rfl, hb11⟩; obtain ⟨n0, n1, n2⟩ := HX5.out w7 (hc9.trans (hb11.mono hc9.size)); obtain ⟨p0, p1, p2⟩ := HX6.out w7 hb11)
        | (go_at_call 10; (with_reducible refine (HSD.out _ hb11).mono ?_); rintro e w8 ⟨rfl, hb12⟩))
      go_ret
      exact ⟨rfl, HB.out _ (hd9.trans ((hb11.trans (hb12.mono hb11.size)).mono hd9.size))⟩
    · have hte := HTE.out h0
      have g1 : decide (n = 0) = false := decide_eq_false h0
      subst hte
      clear CT HTE
      go_upto_region 6 with fail
      have hb7 : Below W0.heap.size W0 w2 := hb3
      clear m0 m1 m2 hb3
      go_upto_region 7 with (go_at_call 8; (with_reducible refine (RS.out _ (HB.out _ hb7)).mono ?_); rintro e w5 ⟨hb8, d2, rfl, hD2, hcn2, hco2⟩)
      obtain ⟨W5, hW5⟩ : ∃ W5, W5 = w5.alloc (.cells #[.slice d2.sA d2.sn d2.sc, .slice d2.zA d2.zn d2.zc, .slice d2.lA d2.ln d2.lc] 26) := ⟨_, rfl⟩
      have hb9 : Below W0.heap.size W0 W5 := by rw [hW5]; exact (hb7.trans (hb8.mono hb7.size)).alloc (hb7.trans (hb8.mono hb7.size)).size _
      have hba : Below w5.heap.size w5 W5 := by rw [hW5]; exact (Below.refl _ _).alloc (Nat.le_refl _) _
      have hx5 : XAt w5.heap.size (.slice d2.sA d2.sn d2.sc) (.slice d2.zA d2.zn d2.zc) (.slice d2.lA d2.ln d2.lc) W5 := by rw [hW5]; exact World.alloc_heap_new _ _
      have HX5 : Hid (∀ W, Below W5.heap.size W5 W → W.cell? ⟨w5.heap.size, 0, none⟩ = some (.slice d2.sA d2.sn d2.sc) ∧ W.cell? ⟨w5.heap.size, 1, none⟩ = some (.slice d2.zA d2.zn d2.zc) ∧ W.cell? ⟨w5.heap.size, 2, none⟩ = some (.slice d2.lA d2.ln d2.lc)) := Lib.hid fun W hW => by
        have h := hx5.below hW
        unfold XAt at h
        exact ⟨cell_of h rfl, cell_of h rfl, cell_of h rfl⟩
      have HD2 := Lib.hid (hD2.next hba)
      rw [← hW5]
      clear hW5 hb7 hb8 hba hx5 hD2 RS
      go_upto_region 10 with (go_at_call 11; (with_reducible refine (RF.out _).mono ?_); rintro e w6 ⟨hb10, d3, rfl, hD3, hcn3, hco3⟩)
      obtain ⟨W6, hW6⟩ : ∃ W6, W6 = w6.alloc (.cells #[.slice d3.sA d3.sn d3.sc, .slice d3.zA d3.zn d3.zc, .slice d3.lA d3.ln d3.lc] 26) := ⟨_, rfl⟩
      have hc9 : Below W5.heap.size W5 W6 := by rw [hW6]; exact hb10.alloc hb10.size _
      have hca : Below w6.heap.size w6 W6 := by rw [hW6]; exact (Below.refl _ _).alloc (Nat.le_refl _) _
      have hx6 : XAt w6.heap.size (.slice d3.sA d3.sn d3.sc) (.slice d3.zA d3.zn d3.zc) (.slice d3.lA d3.ln d3.lc) W6 := by rw [hW6]; exact World.alloc_heap_new _ _
      have HX6 : Hid (∀ W, Below W6.heap.size W6 W → W.cell? ⟨w6.heap.size, 0, none⟩ = some (.slice d3.sA d3.sn d3.sc) ∧ W.cell? ⟨w6.heap.size, 1, none⟩ = some (.slice d3.zA d3.zn d3.zc) ∧ W.cell? ⟨w6.heap.size, 2, none⟩ = some (.slice d3.lA d3.ln d3.lc)) := Lib.hid fun W hW => by
        have h := hx6.below hW
        unfold XAt at h
        exact ⟨cell_of h rfl, cell_of h rfl, cell_of h rfl⟩
      have HSD : Hid (∀ W, Below W6.heap.size W6 W → Calls Tryz.prog 10 #[.agg #[.slice d2.sA d2.sn d2.sc, .slice d2.zA d2.zn d2.zc, .slice d2.lA d2.ln d2.lc], .agg #[.slice d3.sA d3.sn d3.sc, .slice d3.zA d3.zn d3.zc, .slice d3.lA d3.ln d3.lc]] W fun e w' => e = .returned (.bool true) ∧ Below W.heap.size W w') := Lib.hid fun W hW =>
        sameData_any d2 d3 W (HD2.out.next (hc9.trans (hW.mono hc9.size))) ((hD3.next hca).next hW) (same_of (hcn2.trans hcn3.symm) hco2 hco3)
      clear hD3 hcn2 hcn3 hco2 hco3 HD2
      have hd9 : Below W0.heap.size W0 W6 := hb9.trans (hc9.mono hb9.size)
      rw [← hW6]
      clear hW6 hb9 hb10 hca hx6 RF
      go_wp2_with (first
        | (go_at_call 9; (with_reducible refine (BG.out _ (HB.out _ hd9)).mono ?_); rintro e w7 ⟨rfl, hb11⟩; obtain ⟨n0, n1, n2⟩ := HX5.out w7 (hc9.trans (hb11.mono hc9.size)); obtain ⟨p0, p1, p2⟩ := HX6.out w7 hb11)
        | (go_at_call 10; (with_reducible refine (HSD.out _ hb11).mono ?_); rintro e w8 ⟨rfl, hb12⟩))
      go_ret
      exact ⟨rfl, HB.out _ (hd9.trans ((hb11.trans (hb12.mono hb11.size)).mono hd9.size))⟩
end Go.Proofs.YthhjgndaiimgjaaGreatDoor
