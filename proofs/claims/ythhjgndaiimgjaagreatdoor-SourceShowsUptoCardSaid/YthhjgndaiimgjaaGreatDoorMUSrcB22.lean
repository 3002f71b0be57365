/- Parts of a proof, laid together. -/
import Derived.Test.YthhjgndaiimgjaaGreatDoorMUSrcB21
import Derived.Test.YthhjgndaiimgjaaGreatDoorMUSrcB5
set_option linter.unusedSimpArgs false
set_option linter.unusedVariables false
/-! gnomonref.CheckData: the first statements. -/
section
set_option linter.unusedVariables false
set_option linter.unusedSimpArgs false
namespace Go.Proofs.YthhjgndaiimgjaaGreatDoor
open Go.RowKit Gno
set_option maxRecDepth 100000 in
set_option maxHeartbeats 4000000 in
theorem rt1 {d : Dt} {w W : World} {a : Act} {K : Act → World → Prop} (hL : LiveR d w [] a W) (hK : ∀ a' W', manyD d = false → LiveR d w [] a' W' → K a' W') :
    (stmR 1).wp Tryz.prog (Exit.then K (QR d w)) a W := by
  obtain ⟨f, rfl, hws⟩ := openR0 hL
  clear hL
  obtain ⟨c0, c1, c2⟩ := hws.cells
  have HW := Lib.hid hws
  have HK := Lib.hid hK
  clear hws hK
  conv => arg 2; whnf
  by_cases h1 : d.sn ≤ 3
  · have g1 : decide ((3 : Int) < (d.sn : Int)) = false := by simp; omega
    by_cases h2 : d.zn ≤ 5
    · have g2 : decide ((5 : Int) < (d.zn : Int)) = false := by simp; omega
      by_cases h3 : d.ln ≤ 4
      · have g3 : decide ((4 : Int) < (d.ln : Int)) = false := by simp; omega
        have HM := Lib.hid (manyD_no h1 h2 h3)
        clear h1 h2 h3
        go_wp2
        exact HK.out _ _ HM.out ⟨rfl, ⟨rfl, trivial⟩, rfl, HW.out⟩
      · have g3 : decide ((4 : Int) < (d.ln : Int)) = true := by simp; omega
        have HM : Hid (dataE d = 2) := Lib.hid (by unfold dataE; rw [if_pos (by unfold manyD; simp [h3])])
        clear h3
        go_wp2
        go_ret
        exact ⟨ret_int HM.out.symm, HW.out.below⟩
    · have g2 : decide ((5 : Int) < (d.zn : Int)) = true := by simp; omega
      have HM : Hid (dataE d = 2) := Lib.hid (by unfold dataE; rw [if_pos (by unfold manyD; simp [h2])])
      clear h2
      go_wp2
      go_ret
      exact ⟨ret_int HM.out.symm, HW.out.below⟩
  · have g1 : decide ((3 : Int) < (d.sn : Int)) = true := by simp; omega
    have HM : Hid (dataE d = 2) := Lib.hid (by unfold dataE; rw [if_pos (by unfold manyD; simp [h1])])
    clear h1
    go_wp2
    go_ret
    exact ⟨ret_int HM.out.symm, HW.out.below⟩
set_option maxRecDepth 100000 in
set_option maxHeartbeats 4000000 in
theorem rt2 {d : Dt} {w W : World} {a : Act} {K : Act → World → Prop} (hL : LiveR d w [] a W) (hK : ∀ a', LiveR d w [(3, .slice none 0 0), (4, .slice none 0 0)] a' W → K a' W) :
    (stmR 2).wp Tryz.prog (Exit.then K (QR d w)) a W := by
  obtain ⟨f, rfl, hws⟩ := openR0 hL
  clear hL
  have HW := Lib.hid hws
  have HK := Lib.hid hK
  clear hws hK
  conv => arg 2; whnf
  go_wp2
  exact HK.out _ ⟨rfl, ⟨rfl, rfl, rfl, trivial⟩, rfl, HW.out⟩
set_option maxRecDepth 100000 in
set_option maxHeartbeats 8000000 in
theorem rt3 {d : Dt} {w W : World} {a : Act} {K : Act → World → Prop} {v3 v4 : Value} (hD : DataAt w w.heap.size d) (hM : manyD d = false) (hE : dataE d = dE1 d) (hL : LiveR d w [(3, v3), (4, v4)] a W) (hv : v3 = .slice none 0 0)
    (hK : ∀ a' W' v, anyI (fun _ => manyRules) d.ss = false → LiveR d w [(3, v), (4, v4)] a' W' → W'.ownsRow W.heap.size 9 1 v d.sn (strs (sNames d)) → Below W.heap.size W W' → K a' W') :
    (stmR 3).wp Tryz.prog (Exit.then K (QR d w)) a W := by
  subst hv
  obtain ⟨f, rfl, hws⟩ := openR2 hL
  clear hL
  have HW := Lib.hid hws
  have HK := Lib.hid hK
  have HE := Lib.hid hE
  have hsz := hws.size
  have HD := Lib.hid ((hD.next hws.below).1)
  have hle := manyD_le hM
  have hn : d.sn ≤ 100 := by omega
  have HLE := Lib.hid HD.out.1
  clear hws hK hE hD hM hle
  conv => arg 2; whnf
  go_wp2
  go_loopw [3, 5] (fun bo b wr => ∃ i : Nat, i ≤ d.sn ∧ b = .int .i64 i ∧ Hid (anyTo (atI (fun _ => manyRules) d.ss) i = false) ∧ wr.ownsRow W.heap.size 9 1 bo i (strs ((sNames d).take i)) ∧ Below W.heap.size W wr) (fun _ b _ => d.sn - (intOf b).toNat)
  case atStart => exact ⟨0, Nat.zero_le _, rfl, Lib.hid rfl, World.ownsRow_nil _ _ _ _, Below.refl _ _⟩
  case round =>
    obtain ⟨i, hi, rfl, hfi, hown, hb⟩ := hrel
    obtain ⟨c0, c1, c2⟩ := (HW.out.step hb).cells
    by_cases hit : i < d.sn
    · obtain ⟨b, o, q, hA, hbB, hq, hq1, hq2⟩ := sets_get HD.out hit
      have HQ := Lib.hid hq
      obtain ⟨⟨e0, e1⟩, _⟩ := hq2 _ hb
      have hqn : q.n ≤ 9223372036854775807 := ((hq2 _ hb).2).2.1
      have HA := Lib.hid hA
      rw [hA] at c0
      have HT : Hid (strs ((sNames d).take (i + 1)) = strs ((sNames d).take i) ++ [.string q.name]) := Lib.hid (by
        have h1 : (sNames d)[i]? = some q.name := by simp [sNames, hq]
        rw [take_snoc' h1]; simp [strs])
      have HQ2 := Lib.hid hq2
      have HC : Hid (∀ w1, Below W.heap.size W w1 → w1.cell? ⟨w.heap.size, 0, none⟩ = some (.slice (some ⟨b, o, none⟩) d.sn d.sc)) := Lib.hid (fun w1 h1 => by rw [← HA.out]; exact (HW.out.step h1).cells.1)
      clear hq hq2 hA
      cases h1 : withinB q.n 1 4
      · have g1 := (within_any q.n 1 4); rw [h1] at g1
        have G1 := Lib.hid g1
        have HM : Hid (dataE d = 2) := Lib.hid (by
          have := (withinB_no _ _ _).1 h1
          rw [HE.out]; unfold dE1; rw [if_pos (anyI_yes HQ.out (by unfold manyRules; simp; omega))])
        clear g1 h1 hfi
        go_wp2_with (first
          | (at_builtin; go_must (refine wpList_app hb hb.size #[.string q.name] 9 rfl _ _ 63 rfl Tryz.underlying63 (.string ⟨#[]⟩) 1 16 infoStr rfl (by decide) _ i _ rfl hown _ rfl rfl (by intro u hu; simp at hu; subst hu; rfl) (by unfold maxLen; omega) (by omega) ?_); intro v' w1 hown1 hb1 hz1; clear c0 c1 c2; have k0 := HC.out _ hb1; obtain ⟨⟨e0', e1'⟩, _⟩ := HQ2.out _ hb1)
          | (go_at_call 16; (with_reducible refine (G1.out _).mono ?_); rintro e w4 ⟨rfl, rfl⟩))
        go_ret
        exact ⟨ret_int HM.out.symm, (HW.out.step hb1).below⟩
      · have g1 := (within_any q.n 1 4); rw [h1] at g1
        have G1 := Lib.hid g1
        have HM := Lib.hid (anyI_no (p := fun _ => manyRules) HQ.out hfi.out (by have := (withinB_iff _ _ _).1 h1; unfold manyRules; simp; omega))
        clear g1 h1 hfi
        go_wp2_with (first
          | (at_builtin; go_must (refine wpList_app hb hb.size #[.string q.name] 9 rfl _ _ 63 rfl Tryz.underlying63 (.string ⟨#[]⟩) 1 16 infoStr rfl (by decide) _ i _ rfl hown _ rfl rfl (by intro u hu; simp at hu; subst hu; rfl) (by unfold maxLen; omega) (by omega) ?_); intro v' w1 hown1 hb1 hz1; clear c0 c1 c2; have k0 := HC.out _ hb1; obtain ⟨⟨e0', e1'⟩, _⟩ := HQ2.out _ hb1)
          | (go_at_call 16; (with_reducible refine (G1.out _).mono ?_); rintro e w4 ⟨rfl, rfl⟩))
        go_roundw
        case rel => exact ⟨i + 1, by omega, by go_num, HM, by rw [HT.out]; exact hown1, hb1⟩
        case measure => simp [intOf]; omega
    · have HM := Lib.hid (anyI_end (by rw [HLE.out]; omega) (by rw [HLE.out]; exact hi) hfi.out)
      have hown2 : wr.ownsRow W.heap.size 9 1 u3 d.sn (strs (sNames d)) := by
        have h1 := hown
        rw [List.take_of_length_le (by unfold sNames; rw [List.length_map, HLE.out]; omega), show i = d.sn by omega] at h1
        exact h1
      have HO := Lib.hid hown2
      clear hfi hown hown2
      go_wp2
      exact HK.out _ _ _ HM.out ⟨rfl, ⟨rfl, rfl, rfl, trivial⟩, rfl, HW.out.step hb⟩ HO.out hb
set_option maxRecDepth 100000 in
set_option maxHeartbeats 8000000 in
theorem rt4 {d : Dt} {w W : World} {a : Act} {K : Act → World → Prop} {v3 v4 : Value} (hD : DataAt w w.heap.size d) (hM : manyD d = false) (hE : dataE d = dE2 d) (hL : LiveR d w [(3, v3), (4, v4)] a W) (hv : v4 = .slice none 0 0)
    (hK : ∀ a' W' v, anyI (fun _ => manyEras) d.zs = false → LiveR d w [(3, v3), (4, v)] a' W' → W'.ownsRow W.heap.size 9 1 v d.zn (strs (zNames d)) → Below W.heap.size W W' → K a' W') :
    (stmR 4).wp Tryz.prog (Exit.then K (QR d w)) a W := by
  subst hv
  obtain ⟨f, rfl, hws⟩ := openR2 hL
  clear hL
  have HW := Lib.hid hws
  have HK := Lib.hid hK
  have HE := Lib.hid hE
  have hsz := hws.size
  have HD := Lib.hid ((hD.next hws.below).2.1)
  have hle := manyD_le hM
  have hn : d.zn ≤ 100 := by omega
  have HLE := Lib.hid HD.out.1
  clear hws hK hE hD hM hle
  conv => arg 2; whnf
  go_wp2
  go_loopw [4, 6] (fun bo b wr => ∃ i : Nat, i ≤ d.zn ∧ b = .int .i64 i ∧ Hid (anyTo (atI (fun _ => manyEras) d.zs) i = false) ∧ wr.ownsRow W.heap.size 9 1 bo i (strs ((zNames d).take i)) ∧ Below W.heap.size W wr) (fun _ b _ => d.zn - (intOf b).toNat)
  case atStart => exact ⟨0, Nat.zero_le _, rfl, Lib.hid rfl, World.ownsRow_nil _ _ _ _, Below.refl _ _⟩
  case round =>
    obtain ⟨i, hi, rfl, hfi, hown, hb⟩ := hrel
    obtain ⟨c0, c1, c2⟩ := (HW.out.step hb).cells
    by_cases hit : i < d.zn
    · obtain ⟨b, o, q, hA, hbB, hq, hq1, hq2⟩ := zones_get HD.out hit
      have HQ := Lib.hid hq
      obtain ⟨⟨e0, e1⟩, _⟩ := hq2 _ hb
      have hqn : q.n ≤ 9223372036854775807 := ((hq2 _ hb).2).2.1
      have HA := Lib.hid hA
      rw [hA] at c1
      have HT : Hid (strs ((zNames d).take (i + 1)) = strs ((zNames d).take i) ++ [.string q.name]) := Lib.hid (by
        have h1 : (zNames d)[i]? = some q.name := by simp [zNames, hq]
        rw [take_snoc' h1]; simp [strs])
      have HQ2 := Lib.hid hq2
      have HC : Hid (∀ w1, Below W.heap.size W w1 → w1.cell? ⟨w.heap.size, 1, none⟩ = some (.slice (some ⟨b, o, none⟩) d.zn d.zc)) := Lib.hid (fun w1 h1 => by rw [← HA.out]; exact (HW.out.step h1).cells.2.1)
      clear hq hq2 hA
      cases h1 : withinB q.n 1 4
      · have g1 := (within_any q.n 1 4); rw [h1] at g1
        have G1 := Lib.hid g1
        have HM : Hid (dataE d = 2) := Lib.hid (by
          have := (withinB_no _ _ _).1 h1
          rw [HE.out]; unfold dE2; rw [if_pos (anyI_yes HQ.out (by unfold manyEras; simp; omega))])
        clear g1 h1 hfi
        go_wp2_with (first
          | (at_builtin; go_must (refine wpList_app hb hb.size #[.string q.name] 9 rfl _ _ 63 rfl Tryz.underlying63 (.string ⟨#[]⟩) 1 16 infoStr rfl (by decide) _ i _ rfl hown _ rfl rfl (by intro u hu; simp at hu; subst hu; rfl) (by unfold maxLen; omega) (by omega) ?_); intro v' w1 hown1 hb1 hz1; clear c0 c1 c2; have k0 := HC.out _ hb1; obtain ⟨⟨e0', e1'⟩, _⟩ := HQ2.out _ hb1)
          | (go_at_call 16; (with_reducible refine (G1.out _).mono ?_); rintro e w4 ⟨rfl, rfl⟩))
        go_ret
        exact ⟨ret_int HM.out.symm, (HW.out.step hb1).below⟩
      · have g1 := (within_any q.n 1 4); rw [h1] at g1
        have G1 := Lib.hid g1
        have HM := Lib.hid (anyI_no (p := fun _ => manyEras) HQ.out hfi.out (by have := (withinB_iff _ _ _).1 h1; unfold manyEras; simp; omega))
        clear g1 h1 hfi
        go_wp2_with (first
          | (at_builtin; go_must (refine wpList_app hb hb.size #[.string q.name] 9 rfl _ _ 63 rfl Tryz.underlying63 (.string ⟨#[]⟩) 1 16 infoStr rfl (by decide) _ i _ rfl hown _ rfl rfl (by intro u hu; simp at hu; subst hu; rfl) (by unfold maxLen; omega) (by omega) ?_); intro v' w1 hown1 hb1 hz1; clear c0 c1 c2; have k0 := HC.out _ hb1; obtain ⟨⟨e0', e1'⟩, _⟩ := HQ2.out _ hb1)
          | (go_at_call 16; (with_reducible refine (G1.out _).mono ?_); rintro e w4 ⟨rfl, rfl⟩))
        go_roundw
        case rel => exact ⟨i + 1, by omega, by go_num, HM, by rw [HT.out]; exact hown1, hb1⟩
        case measure => simp [intOf]; omega
    · have HM := Lib.hid (anyI_end (by rw [HLE.out]; omega) (by rw [HLE.out]; exact hi) hfi.out)
      have hown2 : wr.ownsRow W.heap.size 9 1 u4 d.zn (strs (zNames d)) := by
        have h1 := hown
        rw [List.take_of_length_le (by unfold zNames; rw [List.length_map, HLE.out]; omega), show i = d.zn by omega] at h1
        exact h1
      have HO := Lib.hid hown2
      clear hfi hown hown2
      go_wp2
      exact HK.out _ _ _ HM.out ⟨rfl, ⟨rfl, rfl, rfl, trivial⟩, rfl, HW.out.step hb⟩ HO.out hb
end Go.Proofs.YthhjgndaiimgjaaGreatDoor
end
/-! data.Check: the last eras' ends; where the links lead. -/
section
set_option linter.unusedVariables false
set_option linter.unusedSimpArgs false
namespace Go.Proofs.YthhjgndaiimgjaaGreatDoor
open Go.RowKit Gno
theorem manyEras_no {d : Dt} (h : anyI (fun _ => manyEras) d.zs = false) {i : Nat} {z : Zn} (hz : d.zs[i]? = some z) : ∃ m, z.n = m + 1 ∧ m ≤ 3 := by
  cases hp : manyEras z
  · unfold manyEras at hp; simp at hp; exact ⟨z.n - 1, by omega, by omega⟩
  · rw [anyI_yes (p := fun _ => manyEras) hz hp] at h; cases h
set_option maxRecDepth 100000 in
set_option maxHeartbeats 8000000 in
theorem st13 {d : Dt} {w W : World} {a : Act} {K : Act → World → Prop} {v7 v8 v9 v10 : Value} (hD : DataAt w w.heap.size d) (hM : anyI (fun _ => manyEras) d.zs = false) (hE : dataE d = dE7 d)
    (hL : Live d w [(7, v7), (8, v8), (9, v9), (10, v10)] a W)
    (hK : ∀ a' W', anyI (fun _ => badEnd) d.zs = false → Live d w [(7, v7), (8, v8), (9, v9), (10, v10)] a' W' → Below W.heap.size W W' → K a' W') :
    (stmD 13).wp Tryz.prog (Exit.then K (QD d w)) a W := by
  obtain ⟨f, ds, rfl, hws⟩ := openS4 hL
  clear hL
  obtain ⟨c0, c1, c2⟩ := hws.cells
  have HY := yes_out 3
  have HN := no_out 3
  have HW := Lib.hid hws
  have HK := Lib.hid hK
  have HE := Lib.hid hE
  have HME := Lib.hid hM
  have hsz := hws.size
  have HD := Lib.hid ((hD.next hws.below).2.1)
  have hn : d.zn ≤ 9223372036854775807 := HD.out.2.1
  have HLE := Lib.hid HD.out.1
  clear hws hK hE hD hM
  conv => arg 2; whnf
  go_wp2
  go_loopw [156] (fun b wr => ∃ i : Nat, i ≤ d.zn ∧ b = .int .i64 i ∧ Hid (anyTo (atI (fun _ => badEnd) d.zs) i = false) ∧ Below W.heap.size W wr) (fun b _ => d.zn - (intOf b).toNat)
  case atStart => exact ⟨0, Nat.zero_le _, rfl, Lib.hid rfl, Below.refl _ _⟩
  case round =>
    obtain ⟨i, hi, rfl, hfi, hb⟩ := hrel
    by_cases hit : i < d.zn
    · obtain ⟨b, o, q, hA, hbB, hq, hq1, hq2⟩ := zones_get HD.out hit
      have HQ := Lib.hid hq
      obtain ⟨⟨e0, e1⟩, hes⟩ := hq2 _ hb
      obtain ⟨m, hm, hm3⟩ := manyEras_no HME.out hq
      obtain ⟨c, g, x, hA2, hcB, hx, _, hxx⟩ := eras_get hes (i := m) (by omega)
      obtain ⟨_, _, _, _, x4⟩ := hxx _ (Below.refl _ _)
      have HB : Hid (badEnd q = decide (x.til ≠ 1893456000)) := Lib.hid (by unfold badEnd; rw [hes.1, hm]; simp only [aheadOf, hx])
      rw [hm, hA2] at e1
      have HA := Lib.hid hA
      have HX0 := Lib.hid (hb.alloc hb.size (.cells #[.string q.name, .slice (some ⟨c, g, none⟩) (m + 1) q.cap] 57))
      have hcr : c < wr.heap.size := by have := hb.size; omega
      clear hq hq2 hA hm hA2 hx hxx hes
      rw [HA.out]
      by_cases h1 : x.til = 1893456000
      · have g1 : (x.til == 1893456000) = true := by simpa using h1
        have HM := Lib.hid (anyI_no (p := fun _ => badEnd) HQ.out hfi.out (by rw [HB.out]; simp [h1]))
        clear h1 hfi
        go_wp2_with (go_at_call 35; (with_reducible refine (HY.out _).mono ?_); rintro e w4 ⟨rfl, rfl⟩)
        go_roundw
        case rel => exact ⟨i + 1, by omega, by go_num, HM, HX0.out⟩
        case measure => simp [intOf]; omega
      · have g1 : (x.til == 1893456000) = false := by simpa using h1
        have HM : Hid (dataE d = 3) := Lib.hid (by rw [HE.out]; unfold dE7; rw [if_pos (anyI_yes HQ.out (by rw [HB.out]; simp [h1]))])
        clear h1 hfi
        go_wp2_with (go_at_call 35; (with_reducible refine (HN.out _).mono ?_); rintro e w4 ⟨rfl, rfl⟩)
        exact door_out HM.out (HW.out.step HX0.out) rfl
    · have HM := Lib.hid (anyI_end (by rw [HLE.out]; omega) (by rw [HLE.out]; exact hi) hfi.out)
      clear hfi
      go_wp2
      exact HK.out _ _ HM.out ⟨rfl, ⟨rfl, rfl, rfl, rfl, rfl, rfl, trivial⟩, HW.out.step hb⟩ hb
set_option maxRecDepth 100000 in
set_option maxHeartbeats 8000000 in
theorem st15 {d : Dt} {w W : World} {a : Act} {K : Act → World → Prop} {v7 v8 v9 v10 : Value} (hD : DataAt w w.heap.size d) (hE : dataE d = dE9 d) (h8 : Sl W d.zn (zNames d) v8) (h9 : Sl W d.ln (lNames d) v9) (h0 : Sl W d.ln (lTos d) v10)
    (hL : Live d w [(7, v7), (8, v8), (9, v9), (10, v10)] a W)
    (hK : ∀ a' W', anyI (fun _ => noTo d) (lTos d) = false → Live d w [(7, v7), (8, v8), (9, v9), (10, v10)] a' W' → Below W.heap.size W W' → K a' W') :
    (stmD 15).wp Tryz.prog (Exit.then K (QD d w)) a W := by
  obtain ⟨A8, c8, rfl, h8, _⟩ := h8
  obtain ⟨A9, c9, rfl, h9, _⟩ := h9
  obtain ⟨A0, c0, rfl, h0, _⟩ := h0
  obtain ⟨f, ds, rfl, hws⟩ := openS4 hL
  clear hL
  have HY := yes_out 4
  have HN := no_out 4
  have HW := Lib.hid hws
  have HK := Lib.hid hK
  have HE := Lib.hid hE
  have HR := Lib.hid h0
  have H8 : Hid (∀ s W', Below W.heap.size W W' → Calls Tryz.prog 50 #[.slice A8 d.zn c8, .string s] W' fun e w' => e = .returned (.bool (hasS (zNames d) s)) ∧ Below W'.heap.size W' w') := Lib.hid (fun s W' hb => containsStr_any A8 d.zn c8 _ s W' ((h8.below hb (Nat.le_refl _)).more hb.size))
  have H9 : Hid (∀ s W', Below W.heap.size W W' → Calls Tryz.prog 50 #[.slice A9 d.ln c9, .string s] W' fun e w' => e = .returned (.bool (hasS (lNames d) s)) ∧ Below W'.heap.size W' w') := Lib.hid (fun s W' hb => containsStr_any A9 d.ln c9 _ s W' ((h9.below hb (Nat.le_refl _)).more hb.size))
  have hn : d.ln ≤ 9223372036854775807 := HR.out.2.1
  have HLE := Lib.hid HR.out.1
  clear hws hK hE hD h8 h9 h0
  conv => arg 2; whnf
  go_wp2
  go_loopw [182] (fun b wr => ∃ i : Nat, i ≤ d.ln ∧ b = .int .i64 i ∧ Hid (anyTo (atI (fun _ => noTo d) (lTos d)) i = false) ∧ Below W.heap.size W wr) (fun b _ => d.ln - (intOf b).toNat)
  case atStart => exact ⟨0, Nat.zero_le _, rfl, Lib.hid rfl, Below.refl _ _⟩
  case round =>
    obtain ⟨i, hi, rfl, hfi, hb⟩ := hrel
    by_cases hit : i < d.ln
    · obtain ⟨b, o, s, hA, hbB, hq, hq2⟩ := HR.out.get hit
      have HQ := Lib.hid hq
      have e0 := hq2 _ hb
      have HA := Lib.hid hA
      have C8 := H8.out s wr hb
      clear hq hq2 hA
      rw [HA.out]
      cases h1 : hasS (zNames d) s
      · rw [h1] at C8
        have CA := Lib.hid C8
        have H1 := Lib.hid h1
        clear C8 h1
        cases h2 : hasS (lNames d) s
        · have H2 := Lib.hid h2
          have HM : Hid (dataE d = 4) := Lib.hid (by rw [HE.out]; unfold dE9; rw [if_pos (anyI_yes HQ.out (by unfold noTo; rw [H1.out, H2.out]; rfl))])
          clear h2 hfi
          go_wp2_with (first
            | (go_at_call 50; (with_reducible refine CA.out.mono ?_); rintro e w4 ⟨rfl, hb4⟩; have hb5 := hb.trans (hb4.mono hb.size); clear hb4)
            | (go_at_call 50; (with_reducible refine (H9.out _ _ hb5).mono ?_); rintro e w5 ⟨rfl, hb6⟩; rw [H2.out]; have hb7 := hb5.trans (hb6.mono hb5.size); clear hb6)
            | (go_at_call 35; (with_reducible refine (HN.out _).mono ?_); rintro e w6 ⟨rfl, rfl⟩))
          exact door_out HM.out (HW.out.step hb7) rfl
        · have H2 := Lib.hid h2
          have HM := Lib.hid (anyI_no (p := fun _ => noTo d) HQ.out hfi.out (by unfold noTo; rw [H1.out, H2.out]; rfl))
          clear h2 hfi
          go_wp2_with (first
            | (go_at_call 50; (with_reducible refine CA.out.mono ?_); rintro e w4 ⟨rfl, hb4⟩; have hb5 := hb.trans (hb4.mono hb.size); clear hb4)
            | (go_at_call 50; (with_reducible refine (H9.out _ _ hb5).mono ?_); rintro e w5 ⟨rfl, hb6⟩; rw [H2.out]; have hb7 := hb5.trans (hb6.mono hb5.size); clear hb6)
            | (go_at_call 35; (with_reducible refine (HY.out _).mono ?_); rintro e w6 ⟨rfl, rfl⟩))
          go_roundw
          case rel => exact ⟨i + 1, by omega, by go_num, HM, hb7⟩
          case measure => simp [intOf]; omega
      · rw [h1] at C8
        have CA := Lib.hid C8
        have HM := Lib.hid (anyI_no (p := fun _ => noTo d) HQ.out hfi.out (by unfold noTo; rw [h1]; rfl))
        clear C8 h1 hfi
        go_wp2_with (first
          | (go_at_call 50; (with_reducible refine CA.out.mono ?_); rintro e w4 ⟨rfl, hb4⟩; have hb5 := hb.trans (hb4.mono hb.size); clear hb4)
          | (go_at_call 35; (with_reducible refine (HY.out _).mono ?_); rintro e w6 ⟨rfl, rfl⟩))
        go_roundw
        case rel => exact ⟨i + 1, by omega, by go_num, HM, hb5⟩
        case measure => simp [intOf]; omega
    · have HM := Lib.hid (anyI_end (by rw [HLE.out]; omega) (by rw [HLE.out]; exact hi) hfi.out)
      clear hfi
      go_wp2
      exact HK.out _ _ HM.out ⟨rfl, ⟨rfl, rfl, rfl, rfl, rfl, rfl, trivial⟩, HW.out.step hb⟩ hb
set_option maxRecDepth 100000 in
set_option maxHeartbeats 8000000 in
theorem st16 {d : Dt} {w W : World} {a : Act} {K : Act → World → Prop} {v7 v8 v9 v10 : Value} (hD : DataAt w w.heap.size d) (hE : dataE d = dE10 d) (h9 : Sl W d.ln (lNames d) v9)
    (hL : Live d w [(7, v7), (8, v8), (9, v9), (10, v10)] a W)
    (hK : ∀ a' W', anyI (fun _ => noLead d) (lNames d) = false → Live d w [(7, v7), (8, v8), (9, v9), (10, v10)] a' W' → Below W.heap.size W W' → K a' W') :
    (stmD 16).wp Tryz.prog (Exit.then K (QD d w)) a W := by
  obtain ⟨A9, c9, rfl, h9, _⟩ := h9
  obtain ⟨f, ds, rfl, hws⟩ := openS4 hL
  clear hL
  have HY := yes_out 7
  have HN := no_out 7
  have HW := Lib.hid hws
  have HK := Lib.hid hK
  have HE := Lib.hid hE
  have HR := Lib.hid h9
  have hn : d.ln ≤ 9223372036854775807 := HR.out.2.1
  have HLE := Lib.hid HR.out.1
  have HL : Hid (∀ s W', Below W.heap.size W W' → Calls Tryz.prog 51 #[.agg #[.slice d.sA d.sn d.sc, .slice d.zA d.zn d.zc, .slice d.lA d.ln d.lc], .string s] W' fun e w' => e = .returned (.int .i64 (leadN d s)) ∧ Below W'.heap.size W' w') := Lib.hid (fun s W' hb => lead_any d s W' (hD.next (HW.out.step hb).below))
  clear hws hK hE hD h9
  conv => arg 2; whnf
  go_wp2
  go_loopw [198] (fun b wr => ∃ i : Nat, i ≤ d.ln ∧ b = .int .i64 i ∧ Hid (anyTo (atI (fun _ => noLead d) (lNames d)) i = false) ∧ Below W.heap.size W wr) (fun b _ => d.ln - (intOf b).toNat)
  case atStart => exact ⟨0, Nat.zero_le _, rfl, Lib.hid rfl, Below.refl _ _⟩
  case round =>
    obtain ⟨i, hi, rfl, hfi, hb⟩ := hrel
    by_cases hit : i < d.ln
    · obtain ⟨b, o, s, hA, hbB, hq, hq2⟩ := HR.out.get hit
      have HQ := Lib.hid hq
      have e0 := hq2 _ hb
      have HA := Lib.hid hA
      obtain ⟨m0, m1, m2⟩ := (HW.out.step hb).cells
      have C := Lib.hid (HL.out s wr hb)
      clear hq hq2 hA
      rw [HA.out]
      by_cases h1 : 0 ≤ leadN d s
      · have g1 : decide (0 ≤ leadN d s) = true := by simpa using h1
        have HM := Lib.hid (anyI_no (p := fun _ => noLead d) HQ.out hfi.out (by unfold noLead; simp; exact h1))
        clear h1 hfi
        go_wp2_with (first
          | (go_at_call 51; (with_reducible refine C.out.mono ?_); rintro e w4 ⟨rfl, hb4⟩; have hb5 := hb.trans (hb4.mono hb.size); clear hb4)
          | (go_at_call 35; (with_reducible refine (HY.out _).mono ?_); rintro e w6 ⟨rfl, rfl⟩))
        go_roundw
        case rel => exact ⟨i + 1, by omega, by go_num, HM, hb5⟩
        case measure => simp [intOf]; omega
      · have g1 : decide (0 ≤ leadN d s) = false := by simpa using h1
        have HM : Hid (dataE d = 7) := Lib.hid (by rw [HE.out]; unfold dE10; rw [if_pos (anyI_yes HQ.out (by unfold noLead; simp; omega))])
        clear h1 hfi
        go_wp2_with (first
          | (go_at_call 51; (with_reducible refine C.out.mono ?_); rintro e w4 ⟨rfl, hb4⟩; have hb5 := hb.trans (hb4.mono hb.size); clear hb4)
          | (go_at_call 35; (with_reducible refine (HN.out _).mono ?_); rintro e w6 ⟨rfl, rfl⟩))
        exact door_out HM.out (HW.out.step hb5) rfl
    · have HM := Lib.hid (anyI_end (by rw [HLE.out]; omega) (by rw [HLE.out]; exact hi) hfi.out)
      clear hfi
      go_wp2
      exact HK.out _ _ HM.out ⟨rfl, ⟨rfl, rfl, rfl, rfl, rfl, rfl, trivial⟩, HW.out.step hb⟩ hb
end Go.Proofs.YthhjgndaiimgjaaGreatDoor
end
/-! data.Check: each format (the second loop over data.eras). -/
section
set_option linter.unusedVariables false
set_option linter.unusedSimpArgs false
namespace Go.Proofs.YthhjgndaiimgjaaGreatDoor
open Go.RowKit Gno Go.Shelf
attribute [local go_sem] Oper.semAt_some
theorem mem_aheads : ∀ {es : List Er} {a : Int} {x : Er × Int}, x ∈ aheads a es → x.1 ∈ es
  | [], _, _, h => by simp [aheads] at h
  | y :: t, a, x, h => by
    rw [aheads] at h
    rcases List.mem_cons.1 h with rfl | h
    · simp
    · exact List.mem_cons_of_mem _ (mem_aheads h)
theorem erasL_fmt {w : World} {B : Nat} {A : Option Addr} {n : Nat} {zs : List Zn} (hz : ZonesAt w B A n zs) : ∀ x ∈ erasL zs, x.1.fmt.size ≤ fmtMax := by
  intro x hx
  obtain ⟨z, hzm, hxm⟩ := List.mem_flatMap.1 hx
  obtain ⟨j, hj⟩ := List.getElem?_of_mem hzm
  have hjl : j < n := by have := (List.getElem?_eq_some_iff.1 hj).1; rw [hz.1] at this; exact this
  obtain ⟨_, _, q, _, _, hq, _, hes⟩ := zones_get hz hjl
  rw [hj] at hq; injection hq with hq; subst hq
  obtain ⟨k, hk⟩ := List.getElem?_of_mem (mem_aheads hxm)
  have he := (hes w (Below.refl _ _)).2
  have hkl : k < z.n := by have := (List.getElem?_eq_some_iff.1 hk).1; rw [he.1] at this; exact this
  obtain ⟨_, _, y, _, _, hy, hy1, _⟩ := eras_get he hkl
  rw [hk] at hy; injection hy with hy; rw [hy]; exact hy1
set_option maxRecDepth 100000 in
set_option maxHeartbeats 8000000 in
theorem st14 {d : Dt} {w W : World} {a : Act} {K : Act → World → Prop} {v7 v8 v9 v10 : Value} (hD : DataAt w w.heap.size d) (hMX : MaxAt w w.heap.size) (hE : dataE d = dE8 d)
    (hL : Live d w [(7, v7), (8, v8), (9, v9), (10, v10)] a W)
    (hK : ∀ a' W', (erasL d.zs).any badF = false → Live d w [(7, v7), (8, v8), (9, v9), (10, v10)] a' W' → Below W.heap.size W W' → K a' W') :
    Code.wpV Tryz.prog (stmD 14) (Exit.then K (QD d w)) a W := by
  obtain ⟨f, ds, rfl, hws⟩ := openS4 hL
  clear hL
  obtain ⟨c0, c1, c2⟩ := hws.cells
  have HW := Lib.hid hws
  have HK := Lib.hid hK
  have HE := Lib.hid hE
  have hsz := hws.size
  have HY := yes_out 1
  have HN := no_out 1
  have HSZ := Lib.hid (erasL_fmt hD.2.1)
  have HMX := Lib.hid hMX
  have HD := Lib.hid ((hD.next hws.below).2.1)
  have CE : Hid (∀ w, Calls Tryz.prog 47 #[.agg #[.slice d.sA d.sn d.sc, .slice d.zA d.zn d.zc, .slice d.lA d.ln d.lc]] w fun e w' => e = .returned (.func (.func 79) #[] #[.pointer (some ⟨w.heap.size, 0, none⟩)]) ∧
      w' = w.alloc (.cells #[.slice d.sA d.sn d.sc, .slice d.zA d.zn d.zc, .slice d.lA d.ln d.lc] 26)) := Lib.hid (fun w => eras_any d w)
  clear hws hK hE hD hMX
  conv => arg 2; whnf
  refine wpV_plain fun K1 hK1 => ?_
  have HK1 := Lib.hid hK1
  clear hK1
  go_wp2_with (go_at_call 47; (with_reducible refine (CE.out _).mono ?_); rintro e w4 ⟨rfl, rfl⟩)
  refine HK1.out _ _ ?_
  clear HK1 CE
  have hb1 : Below W.heap.size W (W.alloc (.cells #[.slice d.sA d.sn d.sc, .slice d.zA d.zn d.zc, .slice d.lA d.ln d.lc] 26)) := (Below.refl _ _).alloc (Nat.le_refl _) _
  obtain ⟨W1, hW1⟩ : ∃ W1, W1 = W.alloc (.cells #[.slice d.sA d.sn d.sc, .slice d.zA d.zn d.zc, .slice d.lA d.ln d.lc] 26) := ⟨_, rfl⟩
  have hz1 : W1.heap.size = W.heap.size + 1 := by rw [hW1]; simp
  have hc1 : W1.cell? ⟨W.heap.size, 1, none⟩ = some (.slice d.zA d.zn d.zc) := by rw [hW1]; simp
  rw [← hW1] at hb1 ⊢
  clear hW1
  refine wpV_block ?_
  refine wpV_range (gf := 79) (lb := #[.pointer (some ⟨W.heap.size, 0, none⟩)]) (encs := encEr) (xs := erasL d.zs) (n0 := W.heap.size) rfl (enters_of Tryz.func79 (by kernel_rfl) rfl) (fun x => rfl)
    (eras_seq d W.heap.size W.heap.size W1 (SlAt.below keeps_zn HD.out hb1 (Nat.le_refl _)) hb1.size (by omega) hc1) hb1.size
    (fun pre V => Hid (pre.any badF = false) ∧ Below W.heap.size W V) (fun ch V => Hid (ch = thrown 1 ∧ dataE d = 1) ∧ Below W.heap.size W V)
    (fun pre A B h hb => ⟨h.1, h.2.trans (hb.mono hb1.size)⟩) ⟨Lib.hid rfl, hb1⟩ ?round ?done ?panic
  case done =>
    rintro W' ⟨hp, hb⟩ hk hz
    simp only [Exit.inBlock, Exit.then]
    exact HK.out _ _ hp.out ⟨rfl, ⟨rfl, rfl, rfl, rfl, rfl, rfl, trivial⟩, HW.out.mark hb (by omega) hk⟩ hb
  case panic =>
    rintro ch W' ⟨hp, hb⟩ hk
    obtain ⟨rfl, hF⟩ := hp.out
    simp only [Exit.inBlock, Exit.then]
    exact door_out hF (HW.out.mark hb (by omega) hk) rfl
  case round =>
    rintro pre ⟨x, ahead⟩ rest V hx ⟨hp, hb⟩ hz
    have HX := Lib.hid hx
    have hzV : W.heap.size + 3 ≤ V.heap.size := by omega
    clear hx
    dsimp only [encEr, Er.val]
    gi_wp2
    refine ⟨(Below.refl _ _).alloc (Nat.le_refl _) _, ?_⟩
    intro V2 hb2 hk2 hs2
    have hbV : Below W.heap.size W V2 := (hb.alloc hb.size _).trans (hb2.mono (by omega))
    have hcell : ∀ i, V2.cell? ⟨V.heap.size, i, none⟩ = (V.alloc (.cells #[.int .i64 x.std, .int .i64 x.set, .int .i64 x.save, .string x.fmt, .int .i64 x.til] 59)).cell? ⟨V.heap.size, i, none⟩ := fun i =>
      World.cell?_of_block (w := V.alloc (.cells #[.int .i64 x.std, .int .i64 x.set, .int .i64 x.save, .string x.fmt, .int .i64 x.til] 59)) (a := ⟨V.heap.size, i, none⟩) (hk2 V.heap.size (by omega))
    have g0 : V2.cell? ⟨V.heap.size, 0, none⟩ = some (.int .i64 x.std) := by rw [hcell]; simp
    have g1 : V2.cell? ⟨V.heap.size, 1, none⟩ = some (.int .i64 x.set) := by rw [hcell]; simp
    have g2 : V2.cell? ⟨V.heap.size, 2, none⟩ = some (.int .i64 x.save) := by rw [hcell]; simp
    have g3 : V2.cell? ⟨V.heap.size, 3, none⟩ = some (.string x.fmt) := by rw [hcell]; simp
    have g4 : V2.cell? ⟨V.heap.size, 4, none⟩ = some (.int .i64 x.til) := by rw [hcell]; simp
    have hz2 : V2.heap.size = V.heap.size + 1 := by rw [hs2]; simp
    have ER1 : Hid (∀ W', Below W.heap.size W W' → Calls Tryz.prog 49 #[.string x.fmt] W' fun e w' => e = .returned (.bool (fmtOk x.fmt)) ∧ Below W'.heap.size W' w') := Lib.hid (fun W' hb' => format_any x.fmt W' (HSZ.out (x, ahead) (by rw [HX.out]; simp)) (HMX.out.below (HW.out.step hb').below (HW.out.step hb').below.size))
    have ER1 := ER1.out V2 hbV
    clear hcell hb2 hk2 hs2 hb
    cases hok : fmtOk x.fmt
    · rw [hok] at ER1
      have ER := Lib.hid ER1
      have HM : Hid (dataE d = 1) := Lib.hid (by rw [HE.out]; unfold dE8; rw [if_pos (any_mid HX.out (by unfold badF; simp [hok]))])
      clear ER1 hok hp
      gi_wp2_with (first
        | (refine ⟨trivial, ?_⟩; gi_at_call 49; (with_reducible refine (CallsIn.inRound _ (callsIn_wide.2 ER.out)).mono ?_); rintro e w5 ⟨rfl, hb5⟩)
        | (refine ⟨trivial, ?_⟩; gi_at_call 35; (with_reducible refine (CallsIn.inRound _ (callsIn_wide.2 (HN.out _))).mono ?_); rintro e w6 ⟨rfl, rfl⟩))
      exact ⟨hb5.block _ (by omega), hbV.trans (hb5.mono hbV.size)⟩
    · rw [hok] at ER1
      have ER := Lib.hid ER1
      have HM := Lib.hid (any_more (x := (x, ahead)) hp.out (by unfold badF; simp [hok]))
      clear ER1 hok hp
      gi_wp2_with (first
        | (refine ⟨trivial, ?_⟩; gi_at_call 49; (with_reducible refine (CallsIn.inRound _ (callsIn_wide.2 ER.out)).mono ?_); rintro e w5 ⟨rfl, hb5⟩)
        | (refine ⟨trivial, ?_⟩; gi_at_call 35; (with_reducible refine (CallsIn.inRound _ (callsIn_wide.2 (HY.out _))).mono ?_); rintro e w6 ⟨rfl, rfl⟩))
      exact ⟨fun k h1 h2 => hb5.block k (by omega), by have := hb5.size; omega, hb5.mono (by omega), Lib.hid (by simpa using HM.out), hbV.trans (hb5.mono hbV.size)⟩
end Go.Proofs.YthhjgndaiimgjaaGreatDoor
end
/-! data.Check: how many rules, how many eras. -/
section
set_option linter.unusedVariables false
set_option linter.unusedSimpArgs false
namespace Go.Proofs.YthhjgndaiimgjaaGreatDoor
open Go.RowKit Gno
set_option maxRecDepth 100000 in
set_option maxHeartbeats 4000000 in
theorem st3 {d : Dt} {w W : World} {a : Act} {K : Act → World → Prop} (hD : DataAt w w.heap.size d) (hE : dataE d = dE1 d) (hL : Live d w [] a W) (hK : ∀ a' W', anyI (fun _ => manyRules) d.ss = false → Live d w [] a' W' → K a' W') :
    (stmD 3).wp Tryz.prog (Exit.then K (QD d w)) a W := by
  obtain ⟨f, ds, rfl, hws⟩ := openS0 hL
  clear hL
  obtain ⟨c0, c1, c2⟩ := hws.cells
  have HY := yes_out 2
  have HN := no_out 2
  have HW := Lib.hid hws
  have HK := Lib.hid hK
  have HE := Lib.hid hE
  have hsz := hws.size
  have HD := Lib.hid ((hD.next hws.below).1)
  have hn : d.sn ≤ 9223372036854775807 := HD.out.2.1
  have HLE := Lib.hid HD.out.1
  clear hws hK hE hD
  conv => arg 2; whnf
  go_wp2
  go_loopw [48] (fun b wr => ∃ i : Nat, i ≤ d.sn ∧ b = .int .i64 i ∧ Hid (anyTo (atI (fun _ => manyRules) d.ss) i = false) ∧ Below W.heap.size W wr) (fun b _ => d.sn - (intOf b).toNat)
  case atStart => exact ⟨0, Nat.zero_le _, rfl, Lib.hid rfl, Below.refl _ _⟩
  case round =>
    obtain ⟨i, hi, rfl, hfi, hb⟩ := hrel
    by_cases hit : i < d.sn
    · obtain ⟨b, o, q, hA, hbB, hq, hq1, hq2⟩ := sets_get HD.out hit
      have HQ := Lib.hid hq
      obtain ⟨⟨e0, e1⟩, _⟩ := hq2 _ hb
      have HA := Lib.hid hA
      have HX0 := Lib.hid (hb.alloc hb.size (.cells #[.string q.name, .slice q.A q.n q.cap] 48))
      clear hq hq2 hA
      rw [HA.out]
      by_cases h1 : q.n < 1
      · have g1 : decide (0 < q.n) = false := by simp; omega
        have HM : Hid (dataE d = 2) := Lib.hid (by rw [HE.out]; unfold dE1; rw [if_pos (anyI_yes HQ.out (by unfold manyRules; simp [h1]))])
        clear h1 hfi
        go_wp2_with (go_at_call 35; (with_reducible refine (HN.out _).mono ?_); rintro e w4 ⟨rfl, rfl⟩)
        exact door_out HM.out (HW.out.step HX0.out) rfl
      · have g1 : decide (0 < q.n) = true := by simp; omega
        by_cases h2 : 4 < q.n
        · have g2 : decide ((q.n : Int) ≤ 4) = false := by simp; omega
          have HM : Hid (dataE d = 2) := Lib.hid (by rw [HE.out]; unfold dE1; rw [if_pos (anyI_yes HQ.out (by unfold manyRules; simp [h2]))])
          clear h1 h2 hfi
          go_wp2_with (go_at_call 35; (with_reducible refine (HN.out _).mono ?_); rintro e w4 ⟨rfl, rfl⟩)
          exact door_out HM.out (HW.out.step HX0.out) rfl
        · have g2 : decide ((q.n : Int) ≤ 4) = true := by simp; omega
          have HM := Lib.hid (anyI_no (p := fun _ => manyRules) HQ.out hfi.out (by unfold manyRules; simp; omega))
          clear h1 h2 hfi
          go_wp2_with (go_at_call 35; (with_reducible refine (HY.out _).mono ?_); rintro e w4 ⟨rfl, rfl⟩)
          go_roundw
          case rel => exact ⟨i + 1, by omega, by go_num, HM, HX0.out⟩
          case measure => simp [intOf]; omega
    · have HM := Lib.hid (anyI_end (by rw [HLE.out]; omega) (by rw [HLE.out]; exact hi) hfi.out)
      clear hfi
      go_wp2
      exact HK.out _ _ HM.out ⟨rfl, ⟨rfl, rfl, trivial⟩, HW.out.step hb⟩
set_option maxRecDepth 100000 in
set_option maxHeartbeats 4000000 in
theorem st4 {d : Dt} {w W : World} {a : Act} {K : Act → World → Prop} (hD : DataAt w w.heap.size d) (hE : dataE d = dE2 d) (hL : Live d w [] a W) (hK : ∀ a' W', anyI (fun _ => manyEras) d.zs = false → Live d w [] a' W' → K a' W') :
    (stmD 4).wp Tryz.prog (Exit.then K (QD d w)) a W := by
  obtain ⟨f, ds, rfl, hws⟩ := openS0 hL
  clear hL
  obtain ⟨c0, c1, c2⟩ := hws.cells
  have HY := yes_out 2
  have HN := no_out 2
  have HW := Lib.hid hws
  have HK := Lib.hid hK
  have HE := Lib.hid hE
  have hsz := hws.size
  have HD := Lib.hid ((hD.next hws.below).2.1)
  have hn : d.zn ≤ 9223372036854775807 := HD.out.2.1
  have HLE := Lib.hid HD.out.1
  clear hws hK hE hD
  conv => arg 2; whnf
  go_wp2
  go_loopw [67] (fun b wr => ∃ i : Nat, i ≤ d.zn ∧ b = .int .i64 i ∧ Hid (anyTo (atI (fun _ => manyEras) d.zs) i = false) ∧ Below W.heap.size W wr) (fun b _ => d.zn - (intOf b).toNat)
  case atStart => exact ⟨0, Nat.zero_le _, rfl, Lib.hid rfl, Below.refl _ _⟩
  case round =>
    obtain ⟨i, hi, rfl, hfi, hb⟩ := hrel
    by_cases hit : i < d.zn
    · obtain ⟨b, o, q, hA, hbB, hq, hq1, hq2⟩ := zones_get HD.out hit
      have HQ := Lib.hid hq
      obtain ⟨⟨e0, e1⟩, _⟩ := hq2 _ hb
      have HA := Lib.hid hA
      have HX0 := Lib.hid (hb.alloc hb.size (.cells #[.string q.name, .slice q.A q.n q.cap] 57))
      clear hq hq2 hA
      rw [HA.out]
      by_cases h1 : q.n < 1
      · have g1 : decide (0 < q.n) = false := by simp; omega
        have HM : Hid (dataE d = 2) := Lib.hid (by rw [HE.out]; unfold dE2; rw [if_pos (anyI_yes HQ.out (by unfold manyEras; simp [h1]))])
        clear h1 hfi
        go_wp2_with (go_at_call 35; (with_reducible refine (HN.out _).mono ?_); rintro e w4 ⟨rfl, rfl⟩)
        exact door_out HM.out (HW.out.step HX0.out) rfl
      · have g1 : decide (0 < q.n) = true := by simp; omega
        by_cases h2 : 4 < q.n
        · have g2 : decide ((q.n : Int) ≤ 4) = false := by simp; omega
          have HM : Hid (dataE d = 2) := Lib.hid (by rw [HE.out]; unfold dE2; rw [if_pos (anyI_yes HQ.out (by unfold manyEras; simp [h2]))])
          clear h1 h2 hfi
          go_wp2_with (go_at_call 35; (with_reducible refine (HN.out _).mono ?_); rintro e w4 ⟨rfl, rfl⟩)
          exact door_out HM.out (HW.out.step HX0.out) rfl
        · have g2 : decide ((q.n : Int) ≤ 4) = true := by simp; omega
          have HM := Lib.hid (anyI_no (p := fun _ => manyEras) HQ.out hfi.out (by unfold manyEras; simp; omega))
          clear h1 h2 hfi
          go_wp2_with (go_at_call 35; (with_reducible refine (HY.out _).mono ?_); rintro e w4 ⟨rfl, rfl⟩)
          go_roundw
          case rel => exact ⟨i + 1, by omega, by go_num, HM, HX0.out⟩
          case measure => simp [intOf]; omega
    · have HM := Lib.hid (anyI_end (by rw [HLE.out]; omega) (by rw [HLE.out]; exact hi) hfi.out)
      clear hfi
      go_wp2
      exact HK.out _ _ HM.out ⟨rfl, ⟨rfl, rfl, trivial⟩, HW.out.step hb⟩
end Go.Proofs.YthhjgndaiimgjaaGreatDoor
end
/-! data.Check, whole. -/
section
set_option linter.unusedVariables false
set_option linter.unusedSimpArgs false
namespace Go.Proofs.YthhjgndaiimgjaaGreatDoor
open Go.RowKit Gno
theorem start_ws (d : Dt) (w : World) : WS d w [guardD (w.heap.size + 1)] ((w.alloc (Dobj d)).alloc (.cells #[.int .i64 0] 27)) :=
  ⟨((Below.refl _ _).alloc (Nat.le_refl _) _).alloc (by simp) _, (Below.heap_alloc _ _ _ (by simp)).trans (World.alloc_heap_new w _), by have := World.alloc_heap_new (w.alloc (Dobj d)) (.cells #[.int .i64 0] 27); rwa [World.size_alloc] at this,
    by simp, ⟨[], rfl, List.nodup_nil, fun r hr => by simp at hr⟩⟩
theorem setCell_same_val {W : World} {e0 : Nat} {T : TypeId} (h : W.heap[e0]? = some (.cells #[.int .i64 0] T)) : W.setCell ⟨e0, 0, none⟩ (.int .i64 0) = W := by
  unfold World.setCell
  have e : (W.heap.modify e0 fun
      | .cells c elem frozen => .cells (if (none : Option Nat).isSome then c else c.setIfInBounds 0 (.int .i64 0)) elem frozen
      | o => o) = W.heap := by
    refine Array.ext (by simp) fun i h1 h2 => ?_
    rw [Array.getElem_modify]
    by_cases h3 : e0 = i
    · subst h3
      rw [Array.getElem?_eq_getElem h2] at h
      injection h with h
      simp [h]
    · simp [h3]
  exact congrArg (fun h => ({ W with heap := h } : World)) e
set_option maxRecDepth 100000 in
set_option maxHeartbeats 8000000 in
theorem check_any (d : Dt) (w : World) (hD : DataAt w w.heap.size d) (hMX : MaxAt w w.heap.size) :
    Calls Tryz.prog 12 #[d.val] w fun e w' => e = .returned (.int .i64 (dataE d)) ∧ Below w.heap.size w w' := by
  have hmf : ∀ (fn : Fn) (first cap : Array Value) (w : World), (Instr.makeFunc fn first cap).run Tryz.prog w = .ok (.func fn first cap) w := fun _ _ _ _ => rfl
  refine calls_of_wpU (R := fun e w' => DoorR w.heap.size (dataE d) e w w') Tryz.func12 rfl ?_
  unfold Dt.val
  simp only [Tryz.ntmps12, List.size_toArray, List.length_cons, List.length_nil, Nat.reduceAdd, Nat.reduceSub, Array.replicate_succ, Array.replicate_zero, List.push_toArray, List.append_toArray, List.nil_append, List.cons_append]
  have HD := Lib.hid hD
  have HMX := Lib.hid hMX
  clear hD hMX
  refine wpV_plain fun K0 hK0 => ?_
  have HK0 := Lib.hid hK0
  clear hK0
  go_wp2
  refine HK0.out _ _ ?_
  clear HK0
  refine wpV_plain fun K1 hK1 => ?_
  have HK1 := Lib.hid hK1
  clear hK1
  go_wp2
  refine HK1.out _ _ ?_
  clear HK1
  refine wpV_plain fun K hK => st2 ?hl fun a2 W2 hm2 hL2 => hK _ _ ?_
  case hl => exact ⟨rfl, ⟨rfl, rfl, trivial⟩, start_ws d w⟩
  clear hK
  have hE1 : dataE d = dE1 d := by unfold dataE; rw [if_neg (by rw [hm2]; simp)]
  refine wpV_plain fun K hK => st3 HD.out hE1 hL2 fun a3 W3 hm3 hL3 => hK _ _ ?_
  clear hL2 hK
  have hE2 : dataE d = dE2 d := by rw [hE1]; unfold dE1; rw [if_neg (by rw [hm3]; simp)]
  refine wpV_plain fun K hK => st4 HD.out hE2 hL3 fun a4 W4 hm4 hL4 => hK _ _ ?_
  clear hL3 hK
  have hE3 : dataE d = dE3 d := by rw [hE2]; unfold dE2; rw [if_neg (by rw [hm4]; simp)]
  refine wpV_plain fun K hK => st5 HD.out hm2 hL4 fun a5 W5 v7 hL5 h7 _ => hK _ _ ?_
  clear hL4 hK
  refine wpV_plain fun K hK => st6 HD.out hm2 hL5 fun a6 W6 v8 hL6 h8 hb => hK _ _ ?_
  have h7 := h7.step hb
  clear hL5 hK hb
  refine wpV_plain fun K hK => st7 HD.out hm2 hL6 fun a7 W7 v9 hL7 h9 hb => hK _ _ ?_
  have h7 := h7.step hb
  have h8 := h8.step hb
  clear hL6 hK hb
  refine wpV_plain fun K hK => st8 HD.out hm2 hL7 fun a8 W8 v0 hL8 h0 hb => hK _ _ ?_
  have h7 := h7.step hb
  have h8 := h8.step hb
  have h9 := h9.step hb
  clear hL7 hK hb
  refine wpV_plain fun K hK => st9 HD.out hm2 hE3 hL8 h7 h8 h9 h0 fun a9 W9 hm9 hL9 hb => hK _ _ ?_
  have hE4 : dataE d = dE4 d := by rw [hE3]; unfold dE3; rw [if_neg (by rw [hm9]; simp)]
  have h7 := h7.step hb
  have h8 := h8.step hb
  have h9 := h9.step hb
  have h0 := h0.step hb
  clear hL8 hK hb
  refine wpV_plain fun K hK => st10 HD.out hm2 hE4 hL9 h7 h8 h9 fun a10 W10 hm10 hL10 hb => hK _ _ ?_
  have hE5 : dataE d = dE5 d := by rw [hE4]; unfold dE4; rw [if_neg (by rw [hm10]; simp)]
  have h8 := h8.step hb
  have h9 := h9.step hb
  have h0 := h0.step hb
  clear hL9 hK hb h7
  refine wpV_plain fun K hK => st11 HD.out hE5 hL10 fun a11 W11 hm11 hL11 hb => hK _ _ ?_
  have hE6 : dataE d = dE6 d := by rw [hE5]; unfold dE5; rw [if_neg (by rw [hm11]; simp)]
  have h8 := h8.step hb
  have h9 := h9.step hb
  have h0 := h0.step hb
  clear hL10 hK hb
  refine wpV_then fun K hK => st12 HD.out hm2 hE6 hL11 fun a12 W12 hm12 hL12 hb => hK _ _ ?_
  have hE7 : dataE d = dE7 d := by rw [hE6]; unfold dE6; rw [if_neg (by rw [hm12]; simp)]
  have h8 := h8.step hb
  have h9 := h9.step hb
  have h0 := h0.step hb
  clear hL11 hK hb
  refine wpV_plain fun K hK => st13 HD.out hm4 hE7 hL12 fun a13 W13 hm13 hL13 hb => hK _ _ ?_
  have hE8 : dataE d = dE8 d := by rw [hE7]; unfold dE7; rw [if_neg (by rw [hm13]; simp)]
  have h8 := h8.step hb
  have h9 := h9.step hb
  have h0 := h0.step hb
  clear hL12 hK hb
  refine wpV_then fun K hK => st14 HD.out HMX.out hE8 hL13 fun a14 W14 hm14 hL14 hb => hK _ _ ?_
  have hE9 : dataE d = dE9 d := by rw [hE8]; unfold dE8; rw [if_neg (by rw [hm14]; simp)]
  have h8 := h8.step hb
  have h9 := h9.step hb
  have h0 := h0.step hb
  clear hL13 hK hb
  refine wpV_plain fun K hK => st15 HD.out hE9 h8 h9 h0 hL14 fun a15 W15 hm15 hL15 hb => hK _ _ ?_
  have hE10 : dataE d = dE10 d := by rw [hE9]; unfold dE9; rw [if_neg (by rw [hm15]; simp)]
  have h9 := h9.step hb
  clear hL14 hK hb h8 h0
  refine wpV_plain fun K hK => st16 HD.out hE10 h9 hL15 fun a16 W16 hm16 hL16 hb => hK _ _ ?_
  have hE0 : dataE d = 0 := by rw [hE10]; unfold dE10; rw [if_neg (by rw [hm16]; simp)]
  clear hL15 hK hb h9
  obtain ⟨f, ds, rfl, hws⟩ := openS4 hL16
  have HW := Lib.hid hws
  have HE := Lib.hid hE0
  have ho := Lib.hid hws.e0
  have hc : W16.cell? ⟨w.heap.size + 1, 0, none⟩ = some (.int .i64 0) := by simp [World.cell?, ho.out]
  have hz : W16.frozen? ⟨w.heap.size + 1, 0, none⟩ = false := by simp [World.frozen?, ho.out]
  have hsame : W16.setCell ⟨w.heap.size + 1, 0, none⟩ (.int .i64 0) = W16 := setCell_same_val ho.out
  refine wpV_plain fun K hK => ?_
  have HK := Lib.hid hK
  clear hL16 hws hK hE0 hE1 hE2 hE3 hE4 hE5 hE6 hE7 hE8 hE9 hE10 hm2 hm3 hm4 hm9 hm10 hm11 hm12 hm13 hm14 hm15 hm16
  go_wp2
  refine HK.out _ _ (wpV_of_wp ?_)
  go_wp2
  exact door_ret HE.out HW.out rfl
end Go.Proofs.YthhjgndaiimgjaaGreatDoor
end
