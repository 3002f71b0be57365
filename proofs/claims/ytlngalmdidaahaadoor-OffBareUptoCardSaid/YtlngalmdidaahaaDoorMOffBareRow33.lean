/- Parts of a proof, laid together. -/
import Derived.Test.YtlngalmdidaahaaDoorMOffBareRow32
set_option linter.unusedSimpArgs false
set_option linter.unusedVariables false
/-! The walk of OffBare. -/
section
set_option linter.unusedVariables false
namespace Go.Proofs.YtlngalmdidaahaaDoor
open Go.RowKit Gno
set_option maxRecDepth 100000 in
set_option maxHeartbeats 4000000 in
theorem offBare_bad (d : Dt) (a1 a2 a3 : Int) (w : World) (hD : DataAt w w.heap.size d) (hM : MaxAt w w.heap.size) (hE : dataE d ≠ 0 ∨ d.zn = 0) :
    Calls Tryd.prog 4 #[d.val, .int .i64 a1, .int .i64 a2, .int .i64 a3] w fun e w' => e = .returned (.bool true) ∧ Below w.heap.size w w' := by
  have HN := Lib.hid (fun W (hb : BoxB d w W) => box_next (d := d) (w := w) (W := W) hD hb)
  have C1 := Lib.hid (fun W (hb : BoxB d w W) => ((check_any d W (HN.out W hb).2.1 (hM.next (HN.out W hb).1)).mono fun _ _ h => (⟨h.1, hb.trans (h.2.mono (by have := hb.size; simpa using this))⟩ : _ ∧ BoxB d w _)))
  have B1 := Lib.hid (fun W (hb : BoxB d w W) => ((offBegun_any W (hM.next (HN.out W hb).1)).mono fun _ _ h => (⟨h.1, hb.trans (h.2.mono (by have := hb.size; simpa using this))⟩ : _ ∧ BoxB d w _)))
  clear hD hM
  unfold Dt.val at *
  obtain ⟨EE, hEE⟩ : ∃ v, v = dataE d := ⟨_, rfl⟩
  rw [← hEE] at C1 hE
  clear hEE
  by_cases h0 : EE = 0
  · have hz : d.zn = 0 := by
      rcases hE with h | h
      · exact absurd h0 h
      · exact h
    subst h0
    have g2 : ((d.zn : Int) == 0) = true := by simp [hz]
    clear hE hz
    go_enter Tryd.func4, Tryd.ntmps4
    go_wp2_with fail
    refine (C1.out _ (Below.refl _ _)).mono ?_
    rintro e u1 ⟨rfl, h1⟩
    obtain ⟨_, _, c0, c1, c2⟩ := HN.out _ h1
    go_wp2_with fail
    refine (B1.out _ h1).mono ?_
    rintro e u2 ⟨rfl, h3⟩
    go_wp2
    go_ret
    exact ⟨rfl, (HN.out _ h3).1⟩
  · have g1 : (EE != 0) = true := by simpa using h0
    clear hE h0
    go_enter Tryd.func4, Tryd.ntmps4
    go_wp2_with fail
    refine (C1.out _ (Below.refl _ _)).mono ?_
    rintro e u1 ⟨rfl, h1⟩
    obtain ⟨_, _, c0, c1, c2⟩ := HN.out _ h1
    go_wp2_with fail
    refine (B1.out _ h1).mono ?_
    rintro e u2 ⟨rfl, h3⟩
    go_wp2
    go_ret
    exact ⟨rfl, (HN.out _ h3).1⟩
theorem wrap_mid {v : Int} (h1 : -4000000000 ≤ v) (h2 : v ≤ 4000000000) : IntKind.i64.wrap v = v := by
  simp [IntKind.wrap, IntKind.bits, IntKind.signed]
  omega
set_option maxRecDepth 100000 in
set_option maxHeartbeats 4000000 in
theorem offBare_good (d : Dt) (a1 a2 a3 : Int) (w : World) (h1 : (Lit.int .i64 a1).wf = true) (h2 : (Lit.int .i64 a2).wf = true) (h3 : (Lit.int .i64 a3).wf = true) (hD : DataAt w w.heap.size d) (hM : MaxAt w w.heap.size) (hE : dataE d = 0) (hz : 0 < d.zn) :
    Calls Tryd.prog 4 #[d.val, .int .i64 a1, .int .i64 a2, .int .i64 a3] w fun e w' => e = .returned (.bool true) ∧ Below w.heap.size w w' := by
  have HN := Lib.hid (fun W (hb : BoxB d w W) => box_next (d := d) (w := w) (W := W) hD hb)
  have hr := rightE_of hE
  have hzn : d.zn ≤ 5 := (manyD_le hr.many).2.1
  have bd := chooseN_bd a1 d.zn (by omega)
  obtain ⟨b, o, q, hA, hbB, hq, hq1, hq2⟩ := zones_get hD.2.1 (i := (chooseN a1 d.zn).toNat) (by omega)
  have hzm := List.mem_of_getElem? hq
  obtain ⟨zn0, A2, n2, cap2, es2⟩ := q
  have hEr := (hq2 w (Below.refl _ _)).2
  have hEl : es2.length = n2 := hEr.1
  have hn2 : n2 ≤ 4 := by
    have h0 := hr.many
    have := eras_few hE hzm
    exact this
  have hpos : 0 < n2 := by
    rcases Nat.eq_zero_or_pos n2 with e | e
    · have he := hr.ends _ hzm
      have : es2.length = 0 := hEl.trans e
      have he : aheadOf es2 es2.length = 1893456000 := he
      rw [this] at he
      simp [aheadOf] at he
    · exact e
  obtain ⟨b2, o2, _, hA2, _, _, _, _⟩ := eras_get hEr (i := 0) hpos
  have hA2' : A2 = some ⟨b2, o2, none⟩ := hA2
  clear hA2
  subst hA2'
  have C1 : Hid (∀ W, BoxB d w W → Calls Tryd.prog 8 #[.agg #[.slice d.sA d.sn d.sc, .slice d.zA d.zn d.zc, .slice d.lA d.ln d.lc]] W fun e w' => e = .returned (.int .i64 0) ∧ BoxB d w w') := Lib.hid (fun W hb => by
    have := check_any d W (HN.out W hb).2.1 (hM.next (HN.out W hb).1)
    rw [hE] at this
    exact this.mono fun _ _ h => ⟨h.1, hb.trans (h.2.mono (by have := hb.size; simpa using this))⟩)
  have B1 : Hid (∀ W, BoxB d w W → Calls Tryd.prog 6 #[] W fun e w' => e = .returned (.bool true) ∧ Below W.heap.size W w') := Lib.hid (fun W hb => offBegun_any W (hM.next (HN.out W hb).1))
  have HAT : Hid (∀ T W, BoxB d w W → Calls Tryd.prog 5 #[.agg #[.slice d.sA d.sn d.sc, .slice (some ⟨b, o, none⟩) d.zn d.zc, .slice d.lA d.ln d.lc], .string zn0, .int .i64 T] W fun e w' => e = .returned (.tuple #[.agg #[.int .i64 (oaTo d zn0 T), .int .i64 (oaSv d zn0 T), .string (oaAb d zn0 T)], .int .i64 (oaE d zn0 T)]) ∧ Below W.heap.size W w') := Lib.hid (fun T W hb => by
    have := at_any d zn0 T W (HN.out W hb).2.1 (hM.next (HN.out W hb).1)
    unfold Dt.val at this
    rwa [hA] at this)
  have CH := Lib.hid (fun W => choose_any a1 d.zn W h1 (by omega) (by omega))
  have hez : ¬ d.zn = 0 := by omega
  have g2 : ((d.zn : Int) == 0) = false := by simp [hez]
  obtain ⟨CZ, hCZ⟩ : ∃ v, v = chooseN a1 d.zn := ⟨_, rfl⟩
  rw [← hCZ] at CH bd hq2
  have HC : Hid (∀ W, BoxB d w W → (W.cell? ⟨w.heap.size, 0, none⟩ = some (.slice d.sA d.sn d.sc) ∧ W.cell? ⟨w.heap.size, 1, none⟩ = some (.slice (some ⟨b, o, none⟩) d.zn d.zc) ∧ W.cell? ⟨w.heap.size, 2, none⟩ = some (.slice d.lA d.ln d.lc)) ∧ (W.cell? ⟨b, o + CZ.toNat * 2, none⟩ = some (.string zn0) ∧ W.cell? ⟨b, o + CZ.toNat * 2 + 1, none⟩ = some (.slice (some ⟨b2, o2, none⟩) n2 cap2)) ∧ Below w.heap.size w W) := Lib.hid (fun W h => by
    have h1 := HN.out W h
    have h2 := (hq2 W h1.1).1
    exact ⟨⟨h1.2.2.1, hA ▸ h1.2.2.2.1, h1.2.2.2.2⟩, ⟨h2.1, h2.2⟩, h1.1⟩)
  obtain ⟨m1, m2⟩ := bd
  have HX : Hid (∀ j x, es2[j]? = some x → (0 < x.til ∧ x.til ≤ 1893456000 ∧ 0 ≤ aheadOf es2 j ∧ aheadOf es2 j < x.til) ∧ ((-50400 ≤ x.std ∧ x.std ≤ 50400) ∧ (0 ≤ x.save ∧ x.save ≤ 7200) ∧ -1 ≤ x.set) ∧ (x.set < 0 → ∀ t, aheadOf es2 j ≤ t → t < x.til → oaE d zn0 t = 0 ∧ oaTo d zn0 t = x.std + x.save ∧ oaSv d zn0 t = x.save ∧ oaAb d zn0 t = repl x.fmt ⟨#[]⟩) ∧ ∀ W, BoxB d w W → ErAt W b2 (o2 + j * 5) x) := Lib.hid (fun j x hx => by
    have hj : j < n2 := by rw [← hEl]; exact (List.getElem?_eq_some_iff.1 hx).1
    obtain ⟨b3, o3, y, hA3, _, hy, _, hc⟩ := eras_get hEr hj
    have hy' : es2[j]? = some y := hy
    rw [hx] at hy'
    injection hy' with hy'
    subst hy'
    injection hA3 with hA3
    injection hA3 with e1 e2 _
    subst e1
    subst e2
    have hk := eraOk_is (hr.eras _ hzm j x hx)
    exact ⟨hr.pos hzm hx, ⟨hk.1, hk.2.2.1, hk.2.1.1⟩, fun hs t t1 t2 => bare_at hE hq hx hs t1 t2, fun W h => hc W (HN.out W h).1⟩)
  clear hq hq1 hq2 hA hbB hzm hEr hCZ hez hr hE hD
  unfold Dt.val
  go_enter Tryd.func4, Tryd.ntmps4
  go_wp2_with fail
  refine (C1.out _ (Below.refl _ _)).mono ?_
  rintro e u1 ⟨rfl, hb⟩
  obtain ⟨⟨c0, c1, c2⟩, _⟩ := HC.out _ hb
  have HB := Lib.hid hb
  clear hb
  go_wp2_with fail
  clear c0 c1 c2
  have HDR : Hid (BoxB d w u1.drew) := Lib.hid HB.out.drew
  obtain ⟨⟨c0, c1, c2⟩, ⟨c3, c4⟩, _⟩ := HC.out _ HDR.out
  go_region_held3 (fun w' => (w'.cell? ⟨w.heap.size, 0, none⟩ = some (.slice d.sA d.sn d.sc) ∧ w'.cell? ⟨w.heap.size, 1, none⟩ = some (.slice (some ⟨b, o, none⟩) d.zn d.zc) ∧ w'.cell? ⟨w.heap.size, 2, none⟩ = some (.slice d.lA d.ln d.lc)) ∧ w'.cell? ⟨b, o + CZ.toNat * 2, none⟩ = some (.string zn0) ∧ w'.cell? ⟨b, o + CZ.toNat * 2 + 1, none⟩ = some (.slice (some ⟨b2, o2, none⟩) n2 cap2))
    (refine ⟨⟨?_, ?_, ?_⟩, ?_, ?_⟩ <;> (first | with_reducible exact c0 | with_reducible exact c1 | with_reducible exact c2 | with_reducible exact c3 | with_reducible exact c4 | with_reducible exact alloc_keep c0 | with_reducible exact alloc_keep c1 | with_reducible exact alloc_keep c2 | with_reducible exact alloc_keep c3 | with_reducible exact alloc_keep c4 | with_reducible exact alloc_keep2 c0 | with_reducible exact alloc_keep2 c1 | with_reducible exact alloc_keep2 c2 | with_reducible exact alloc_keep2 c3 | with_reducible exact alloc_keep2 c4 | go_keep))
    (first
      | (go_at_call 9; refine (CH.out _).mono ?_; rintro e w4 ⟨rfl, rfl⟩))
  all_goals
    have hbv : BoxB d w (u1.alloc (.cells #[.string zn0, .slice (some ⟨b2, o2, none⟩) n2 cap2] 37)).drew := (Below.alloc HB.out (by have := HB.out.size; simpa using this) _).drew
    have HO : Hid (∀ W, Below (u1.alloc (.cells #[.string zn0, .slice (some ⟨b2, o2, none⟩) n2 cap2] 37)).drew.heap.size (u1.alloc (.cells #[.string zn0, .slice (some ⟨b2, o2, none⟩) n2 cap2] 37)).drew W → BoxB d w W ∧ W.cell? ⟨u1.heap.size, 0, none⟩ = some (.string zn0) ∧ W.cell? ⟨u1.heap.size, 1, none⟩ = some (.slice (some ⟨b2, o2, none⟩) n2 cap2)) := Lib.hid (fun W h => by
      have k := (h.block u1.heap.size (by simp)).trans (World.alloc_heap_new u1 (.cells #[.string zn0, .slice (some ⟨b2, o2, none⟩) n2 cap2] 37))
      exact ⟨hbv.trans (h.mono (by have := hbv.size; simp at this ⊢ <;> omega)), cell_of k rfl, cell_of k rfl⟩)
    clear hbv c0 c1 c2 c3 c4
    obtain ⟨v1, hv⟩ : ∃ v : World, v = (u1.alloc (.cells #[.string zn0, .slice (some ⟨b2, o2, none⟩) n2 cap2] 37)).drew := ⟨_, rfl⟩
    rw [← hv] at HO
    rw [← hv]
    clear hv
    obtain ⟨_, z0, z1⟩ := HO.out _ (Below.refl _ _)
    have gn : ((n2 : Int) == 0) = false := by simp; omega
    have CH2 := Lib.hid (fun W => choose_any a2 n2 W h2 (by omega) (by omega))
    have bd2 := chooseN_bd a2 n2 (by omega)
    obtain ⟨CE, hCE⟩ : ∃ v, v = chooseN a2 n2 := ⟨_, rfl⟩
    rw [← hCE] at CH2 bd2
    obtain ⟨n1, n3⟩ := bd2
    clear hCE
    go_wp2_with fail
    refine (CH2.out _).mono ?_
    rintro e w5 ⟨rfl, rfl⟩
    have hxq := List.getElem?_eq_getElem (l := es2) (i := CE.toNat) (by omega)
    obtain ⟨x, hxx⟩ : ∃ x, x = es2[CE.toNat]'(by omega) := ⟨_, rfl⟩
    rw [← hxx] at hxq
    clear hxx
    obtain ⟨⟨t1, t2, t3, t4⟩, ⟨s1, s2, s3⟩, hba, hxc⟩ := HX.out _ x hxq
    have HBA := Lib.hid hba
    have HXC := Lib.hid hxc
    clear hba hxc
    obtain ⟨x0, x1, x2, x3, x4⟩ := HXC.out _ (HO.out _ (Below.refl _ _)).1
    have hceb : CE < (n2 : Int) := n3
    by_cases hce : 0 < CE
    · have gc : decide ((0 : Int) < CE) = true := by simpa using hce
      have hyq := List.getElem?_eq_getElem (l := es2) (i := CE.toNat - 1) (by omega)
      obtain ⟨y, hyy⟩ : ∃ y, y = es2[CE.toNat - 1]'(by omega) := ⟨_, rfl⟩
      rw [← hyy] at hyq
      have hfr : aheadOf es2 CE.toNat = y.til := by
        have e : CE.toNat = CE.toNat - 1 + 1 := by omega
        rw [e]
        simp only [aheadOf]
        rw [hyq]
      have y4 := ((HX.out _ y hyq).2.2.2 _ (HO.out _ (Below.refl _ _)).1).2.2.2.2
      rw [← hfr] at y4
      obtain ⟨FR, hFR⟩ : ∃ v, v = aheadOf es2 CE.toNat := ⟨_, rfl⟩
      rw [← hFR] at y4 t3 t4 HBA
      have hw1 : IntKind.i64.wrap (CE - 1) = CE - 1 := wrap_small (by omega) (by omega)
      clear hFR hfr hyq hyy hxq
      have hv2 : BoxB d w (v1.alloc (.cells #[.int .i64 x.std, .int .i64 x.set, .int .i64 x.save, .string x.fmt, .int .i64 x.til] 39)) := Below.alloc (HO.out _ (Below.refl _ _)).1 (by have := ((HO.out _ (Below.refl _ _)).1).size; simpa using this) _
      have HQ : Hid (∀ W, Below (v1.alloc (.cells #[.int .i64 x.std, .int .i64 x.set, .int .i64 x.save, .string x.fmt, .int .i64 x.til] 39)).heap.size (v1.alloc (.cells #[.int .i64 x.std, .int .i64 x.set, .int .i64 x.save, .string x.fmt, .int .i64 x.til] 39)) W → BoxB d w W ∧ (W.cell? ⟨u1.heap.size, 0, none⟩ = some (.string zn0) ∧ W.cell? ⟨u1.heap.size, 1, none⟩ = some (.slice (some ⟨b2, o2, none⟩) n2 cap2)) ∧ (W.cell? ⟨v1.heap.size, 0, none⟩ = some (.int .i64 x.std) ∧ W.cell? ⟨v1.heap.size, 1, none⟩ = some (.int .i64 x.set) ∧ W.cell? ⟨v1.heap.size, 2, none⟩ = some (.int .i64 x.save) ∧ W.cell? ⟨v1.heap.size, 3, none⟩ = some (.string x.fmt) ∧ W.cell? ⟨v1.heap.size, 4, none⟩ = some (.int .i64 x.til)) ∧ Below w.heap.size w W) := Lib.hid (fun W h => by
        have k := (h.block v1.heap.size (by simp)).trans (World.alloc_heap_new v1 (.cells #[.int .i64 x.std, .int .i64 x.set, .int .i64 x.save, .string x.fmt, .int .i64 x.til] 39))
        have hz := HO.out W (((Below.refl _ _).alloc (Nat.le_refl _) _).trans (h.mono (by simp)))
        exact ⟨hz.1, ⟨hz.2.1, hz.2.2⟩, ⟨cell_of k rfl, cell_of k rfl, cell_of k rfl, cell_of k rfl, cell_of k rfl⟩, (HC.out W hz.1).2.2⟩)
      have HV2 := Lib.hid hv2
      clear hv2
      have gt1 : decide (x.til ≤ (FR : Int)) = false := by simp; omega
      have gt2 : decide ((FR : Int) < x.til) = true := by simp; omega
      by_cases hs : x.set = -1
      · have gs : (x.set != -1) = false := by simpa using hs
        have hba2 := HBA.out (by omega)
        have bd3 := chooseN_bd a3 (x.til - FR) (by omega)
        have CH3 : Hid (∀ W, Calls Tryd.prog 9 #[.int .i64 a3, .int .i64 (x.til - FR)] W fun e w' => e = .returned (.int .i64 (chooseN a3 (x.til - FR))) ∧ W = w') := Lib.hid (fun W => choose_any a3 (x.til - FR) W h3 (by omega) (by omega))
        have ATg : ∀ T, FR ≤ T → T < x.til → Hid (∀ W, BoxB d w W → Calls Tryd.prog 5 #[.agg #[.slice d.sA d.sn d.sc, .slice (some ⟨b, o, none⟩) d.zn d.zc, .slice d.lA d.ln d.lc], .string zn0, .int .i64 T] W fun e w' => e = .returned (.tuple #[.agg #[.int .i64 (x.std + x.save), .int .i64 x.save, .string (repl x.fmt ⟨#[]⟩)], .int .i64 0]) ∧ Below W.heap.size W w') := fun T q1 q2 => Lib.hid (fun W hb => by
          have h9 := hba2 T q1 q2
          have := HAT.out T W hb
          rwa [h9.1, h9.2.1, h9.2.2.1, h9.2.2.2] at this)
        obtain ⟨CT, hCT⟩ : ∃ v, v = chooseN a3 (x.til - FR) := ⟨_, rfl⟩
        rw [← hCT] at CH3 bd3
        obtain ⟨j1, j2⟩ := bd3
        have T1 := ATg (FR + CT) (by omega) (by omega)
        have T2 := ATg (x.til - 1) (by omega) (by omega)
        obtain ⟨AB, hAB⟩ : ∃ v, v = repl x.fmt ⟨#[]⟩ := ⟨_, rfl⟩
        rw [← hAB] at T1 T2
        have gw1 : IntKind.i64.wrap (x.til - FR) = x.til - FR := wrap_mid (by omega) (by omega)
        have gw2 : IntKind.i64.wrap (FR + CT) = FR + CT := wrap_mid (by omega) (by omega)
        have gw3 : IntKind.i64.wrap (x.til - 1) = x.til - 1 := wrap_mid (by omega) (by omega)
        have gw4 : IntKind.i64.wrap (x.std + x.save) = x.std + x.save := wrap_mid (by omega) (by omega)
        clear ATg hba2 hCT hAB hs
        go_wp2_with fail
        obtain ⟨v2, hv⟩ : ∃ v : World, v = v1.alloc (.cells #[.int .i64 x.std, .int .i64 x.set, .int .i64 x.save, .string x.fmt, .int .i64 x.til] 39) := ⟨_, rfl⟩
        rw [← hv] at HQ HV2
        rw [← hv]
        clear hv
        clear x0 x1 x2 x3 x4 z0 z1
        have HDA : Hid (Below v2.heap.size v2 v2.drew) := Lib.hid (Below.refl _ _).drew
        have HAA : Hid (Below v2.heap.size v2 (v2.alloc (.cells #[.int .i64 0, .int .i64 0, .string ⟨#[]⟩] 28)).drew) := Lib.hid (Below.alloc (Below.refl _ _) (Nat.le_refl _) _).drew
        obtain ⟨_, ⟨q5, _⟩, ⟨_, _, _, _, q4⟩, _⟩ := HQ.out _ (HDA.out)
        obtain ⟨⟨c0, c1, c2⟩, _, _⟩ := HC.out _ (HQ.out _ (HDA.out)).1
        have n0 : v2.heap.size ≠ w.heap.size := World.new_ne v2 _ c0
        have n5 : v2.heap.size ≠ u1.heap.size := World.new_ne v2 _ q5
        have n4 : v2.heap.size ≠ v1.heap.size := World.new_ne v2 _ q4
        go_region_held3 (fun w' => (w'.cell? ⟨w.heap.size, 0, none⟩ = some (.slice d.sA d.sn d.sc) ∧ w'.cell? ⟨w.heap.size, 1, none⟩ = some (.slice (some ⟨b, o, none⟩) d.zn d.zc) ∧ w'.cell? ⟨w.heap.size, 2, none⟩ = some (.slice d.lA d.ln d.lc)) ∧ w'.cell? ⟨u1.heap.size, 0, none⟩ = some (.string zn0) ∧ w'.cell? ⟨v1.heap.size, 4, none⟩ = some (.int .i64 x.til))
          (refine ⟨⟨?_, ?_, ?_⟩, ?_, ?_⟩ <;> (first | with_reducible exact c0 | with_reducible exact c1 | with_reducible exact c2 | with_reducible exact q5 | with_reducible exact q4 | with_reducible exact alloc_keep c0 | with_reducible exact alloc_keep c1 | with_reducible exact alloc_keep c2 | with_reducible exact alloc_keep q5 | with_reducible exact alloc_keep q4 | with_reducible exact alloc_keep2 c0 | with_reducible exact alloc_keep2 c1 | with_reducible exact alloc_keep2 c2 | with_reducible exact alloc_keep2 q5 | with_reducible exact alloc_keep2 q4 | (rw [far3 n0]; first | with_reducible exact c0 | with_reducible exact c1 | with_reducible exact c2) | (rw [far3 n5]; with_reducible exact q5) | (rw [far3 n4]; with_reducible exact q4) | (trace_state; fail)))
          (first
            | (go_at_call 9; refine (CH3.out _).mono ?_; rintro e wch ⟨rfl, rfl⟩)
            | (go_at_call 5; refine (T1.out _ (HQ.out _ (HDA.out)).1).mono ?_; rintro e wA ⟨rfl, h9⟩; have h9v := HDA.out.trans (h9.mono HDA.out.size); have H9 := Lib.hid h9; clear h9 c0 c1 c2 q5 q4; obtain ⟨⟨c0, c1, c2⟩, _, _⟩ := HC.out _ (HQ.out _ (h9v)).1; obtain ⟨_, ⟨q5, _⟩, ⟨_, _, _, _, q4⟩, _⟩ := HQ.out _ (h9v); have m0 := World.new_ne wA _ c0; have m5 := World.new_ne wA _ q5; have m4 := World.new_ne wA _ q4)
            | (go_at_call 5; refine (T1.out _ (HQ.out _ (HAA.out)).1).mono ?_; rintro e wA ⟨rfl, h9⟩; have h9v := HAA.out.trans (h9.mono HAA.out.size); have k9 : wA.heap[v2.heap.size]? = some (.cells #[.int .i64 0, .int .i64 0, .string ⟨#[]⟩] 28) := (h9.block _ (by simp)).trans (World.alloc_heap_new v2 _); have H9 := Lib.hid h9; clear h9 c0 c1 c2 q5 q4; obtain ⟨⟨c0, c1, c2⟩, _, _⟩ := HC.out _ (HQ.out _ (h9v)).1; obtain ⟨_, ⟨q5, _⟩, ⟨_, _, _, _, q4⟩, _⟩ := HQ.out _ (h9v); have p0 : wA.cell? ⟨v2.heap.size, 0, none⟩ = some (.int .i64 0) := cell_of k9 rfl; have p1 : wA.cell? ⟨v2.heap.size, 1, none⟩ = some (.int .i64 0) := cell_of k9 rfl; have p2 : wA.cell? ⟨v2.heap.size, 2, none⟩ = some (.string ⟨#[]⟩) := cell_of k9 rfl; have f0 : wA.frozen? ⟨v2.heap.size, 0, none⟩ = false := frozen_of k9; have f1 : wA.frozen? ⟨v2.heap.size, 1, none⟩ = false := frozen_of k9; have f2 : wA.frozen? ⟨v2.heap.size, 2, none⟩ = false := frozen_of k9))
        · have B3 : Below v2.heap.size v2 (wA.alloc (.cells #[.int .i64 (x.std + x.save), .int .i64 x.save, .string AB] 28)) := Below.alloc h9v h9v.size _
          have P3 : (wA.alloc (.cells #[.int .i64 (x.std + x.save), .int .i64 x.save, .string AB] 28)).heap[wA.heap.size]? = some (.cells #[.int .i64 (x.std + x.save), .int .i64 x.save, .string AB] 28) := World.alloc_heap_new _ _
          obtain ⟨vA, hvA⟩ : ∃ v : World, v = wA.alloc (.cells #[.int .i64 (x.std + x.save), .int .i64 x.save, .string AB] 28) := ⟨_, rfl⟩
          rw [← hvA] at B3 P3
          rw [← hvA]
          have PL : wA.heap.size < vA.heap.size := by
            rcases Nat.lt_or_ge (wA.heap.size) vA.heap.size with q | q
            · exact q
            · rw [Array.getElem?_eq_none q] at P3; cases P3
          have HPA : Hid (∀ W, Below vA.heap.size vA W → Below v2.heap.size v2 W ∧ (W.cell? ⟨wA.heap.size, 0, none⟩ = some (.int .i64 (x.std + x.save)) ∧ W.cell? ⟨wA.heap.size, 1, none⟩ = some (.int .i64 x.save) ∧ W.cell? ⟨wA.heap.size, 2, none⟩ = some (.string AB))) := Lib.hid (fun W h => by
            have k := (h.block (wA.heap.size) PL).trans P3
            exact ⟨B3.trans (h.mono B3.size), cell_of k rfl, cell_of k rfl, cell_of k rfl⟩)
          try clear m0 m5 m4
          try clear k9 p0 p1 p2 f0 f1 f2
          clear hvA B3 P3 PL c0 c1 c2 q5 q4 n0 n5 n4 h9v H9 HDA HAA
          have hA0 := HPA.out _ (Below.refl _ _)
          obtain ⟨hbx, ⟨q5, _⟩, ⟨_, _, _, _, q4⟩, _⟩ := HQ.out _ hA0.1
          obtain ⟨⟨c0, c1, c2⟩, _, _⟩ := HC.out _ hbx
          have HBX := Lib.hid hbx
          clear hbx hA0
          go_wp2_with fail
          refine (T2.out _ HBX.out).mono ?_
          rintro e wB ⟨rfl, h9⟩
          clear c0 c1 c2 q5 q4
          have hBV : Below vA.heap.size vA (wB.alloc (.cells #[.int .i64 (x.std + x.save), .int .i64 x.save, .string AB] 28)) := Below.alloc h9 h9.size _
          have HPB : Hid (∀ W, Below (wB.alloc (.cells #[.int .i64 (x.std + x.save), .int .i64 x.save, .string AB] 28)).heap.size (wB.alloc (.cells #[.int .i64 (x.std + x.save), .int .i64 x.save, .string AB] 28)) W → Below vA.heap.size vA W ∧ (W.cell? ⟨wB.heap.size, 0, none⟩ = some (.int .i64 (x.std + x.save)) ∧ W.cell? ⟨wB.heap.size, 1, none⟩ = some (.int .i64 x.save) ∧ W.cell? ⟨wB.heap.size, 2, none⟩ = some (.string AB))) := Lib.hid (fun W h => by
            have k := (h.block wB.heap.size (by simp)).trans (World.alloc_heap_new wB (.cells #[.int .i64 (x.std + x.save), .int .i64 x.save, .string AB] 28))
            exact ⟨hBV.trans (h.mono hBV.size), cell_of k rfl, cell_of k rfl, cell_of k rfl⟩)
          have HBV := Lib.hid hBV
          clear hBV h9
          go_wp2_with fail
          refine (B1.out _ (HQ.out _ (HPA.out _ HBV.out).1).1).mono ?_
          rintro e w10 ⟨rfl, h10⟩
          have hB1 := HPB.out _ h10
          have hA1 := HPA.out _ hB1.1
          obtain ⟨a0, a1', a2'⟩ := hA1.2
          obtain ⟨b0, b1, b2'⟩ := hB1.2
          obtain ⟨_, _, ⟨q0, q1, q2, q3, q4⟩, hbw⟩ := HQ.out _ hA1.1
          have HBW := Lib.hid hbw
          clear hA1 hB1 h10 hbw
          go_wp2
          go_ret
          exact ⟨rfl, HBW.out⟩
        · have B3 : Below v2.heap.size v2 (((wA.setCell ⟨v2.heap.size, 0, none⟩ (.int .i64 (x.std + x.save))).setCell ⟨v2.heap.size, 1, none⟩ (.int .i64 x.save)).setCell ⟨v2.heap.size, 2, none⟩ (.string AB)) := ((h9v.setCell (Nat.le_refl _) _).setCell (Nat.le_refl _) _).setCell (Nat.le_refl _) _
          have P3 : (((wA.setCell ⟨v2.heap.size, 0, none⟩ (.int .i64 (x.std + x.save))).setCell ⟨v2.heap.size, 1, none⟩ (.int .i64 x.save)).setCell ⟨v2.heap.size, 2, none⟩ (.string AB)).heap[v2.heap.size]? = some (.cells #[.int .i64 (x.std + x.save), .int .i64 x.save, .string AB] 28) := (set_obj (set_obj (set_obj k9 _) _) _).trans rfl
          obtain ⟨vA, hvA⟩ : ∃ v : World, v = (((wA.setCell ⟨v2.heap.size, 0, none⟩ (.int .i64 (x.std + x.save))).setCell ⟨v2.heap.size, 1, none⟩ (.int .i64 x.save)).setCell ⟨v2.heap.size, 2, none⟩ (.string AB)) := ⟨_, rfl⟩
          rw [← hvA] at B3 P3
          rw [← hvA]
          have PL : v2.heap.size < vA.heap.size := by
            rcases Nat.lt_or_ge (v2.heap.size) vA.heap.size with q | q
            · exact q
            · rw [Array.getElem?_eq_none q] at P3; cases P3
          have HPA : Hid (∀ W, Below vA.heap.size vA W → Below v2.heap.size v2 W ∧ (W.cell? ⟨v2.heap.size, 0, none⟩ = some (.int .i64 (x.std + x.save)) ∧ W.cell? ⟨v2.heap.size, 1, none⟩ = some (.int .i64 x.save) ∧ W.cell? ⟨v2.heap.size, 2, none⟩ = some (.string AB))) := Lib.hid (fun W h => by
            have k := (h.block (v2.heap.size) PL).trans P3
            exact ⟨B3.trans (h.mono B3.size), cell_of k rfl, cell_of k rfl, cell_of k rfl⟩)
          try clear m0 m5 m4
          try clear k9 p0 p1 p2 f0 f1 f2
          clear hvA B3 P3 PL c0 c1 c2 q5 q4 n0 n5 n4 h9v H9 HDA HAA
          have hA0 := HPA.out _ (Below.refl _ _)
          obtain ⟨hbx, ⟨q5, _⟩, ⟨_, _, _, _, q4⟩, _⟩ := HQ.out _ hA0.1
          obtain ⟨⟨c0, c1, c2⟩, _, _⟩ := HC.out _ hbx
          have HBX := Lib.hid hbx
          clear hbx hA0
          go_wp2_with fail
          refine (T2.out _ HBX.out).mono ?_
          rintro e wB ⟨rfl, h9⟩
          clear c0 c1 c2 q5 q4
          have hBV : Below vA.heap.size vA (wB.alloc (.cells #[.int .i64 (x.std + x.save), .int .i64 x.save, .string AB] 28)) := Below.alloc h9 h9.size _
          have HPB : Hid (∀ W, Below (wB.alloc (.cells #[.int .i64 (x.std + x.save), .int .i64 x.save, .string AB] 28)).heap.size (wB.alloc (.cells #[.int .i64 (x.std + x.save), .int .i64 x.save, .string AB] 28)) W → Below vA.heap.size vA W ∧ (W.cell? ⟨wB.heap.size, 0, none⟩ = some (.int .i64 (x.std + x.save)) ∧ W.cell? ⟨wB.heap.size, 1, none⟩ = some (.int .i64 x.save) ∧ W.cell? ⟨wB.heap.size, 2, none⟩ = some (.string AB))) := Lib.hid (fun W h => by
            have k := (h.block wB.heap.size (by simp)).trans (World.alloc_heap_new wB (.cells #[.int .i64 (x.std + x.save), .int .i64 x.save, .string AB] 28))
            exact ⟨hBV.trans (h.mono hBV.size), cell_of k rfl, cell_of k rfl, cell_of k rfl⟩)
          have HBV := Lib.hid hBV
          clear hBV h9
          go_wp2_with fail
          refine (B1.out _ (HQ.out _ (HPA.out _ HBV.out).1).1).mono ?_
          rintro e w10 ⟨rfl, h10⟩
          have hB1 := HPB.out _ h10
          have hA1 := HPA.out _ hB1.1
          obtain ⟨a0, a1', a2'⟩ := hA1.2
          obtain ⟨b0, b1, b2'⟩ := hB1.2
          obtain ⟨_, _, ⟨q0, q1, q2, q3, q4⟩, hbw⟩ := HQ.out _ hA1.1
          have HBW := Lib.hid hbw
          clear hA1 hB1 h10 hbw
          go_wp2
          go_ret
          exact ⟨rfl, HBW.out⟩
        · have B3 : Below v2.heap.size v2 (((wA.setCell ⟨v2.heap.size, 0, none⟩ (.int .i64 (x.std + x.save))).setCell ⟨v2.heap.size, 1, none⟩ (.int .i64 x.save)).setCell ⟨v2.heap.size, 2, none⟩ (.string AB)) := ((h9v.setCell (Nat.le_refl _) _).setCell (Nat.le_refl _) _).setCell (Nat.le_refl _) _
          have P3 : (((wA.setCell ⟨v2.heap.size, 0, none⟩ (.int .i64 (x.std + x.save))).setCell ⟨v2.heap.size, 1, none⟩ (.int .i64 x.save)).setCell ⟨v2.heap.size, 2, none⟩ (.string AB)).heap[v2.heap.size]? = some (.cells #[.int .i64 (x.std + x.save), .int .i64 x.save, .string AB] 28) := (set_obj (set_obj (set_obj k9 _) _) _).trans rfl
          obtain ⟨vA, hvA⟩ : ∃ v : World, v = (((wA.setCell ⟨v2.heap.size, 0, none⟩ (.int .i64 (x.std + x.save))).setCell ⟨v2.heap.size, 1, none⟩ (.int .i64 x.save)).setCell ⟨v2.heap.size, 2, none⟩ (.string AB)) := ⟨_, rfl⟩
          rw [← hvA] at B3 P3
          rw [← hvA]
          have PL : v2.heap.size < vA.heap.size := by
            rcases Nat.lt_or_ge (v2.heap.size) vA.heap.size with q | q
            · exact q
            · rw [Array.getElem?_eq_none q] at P3; cases P3
          have HPA : Hid (∀ W, Below vA.heap.size vA W → Below v2.heap.size v2 W ∧ (W.cell? ⟨v2.heap.size, 0, none⟩ = some (.int .i64 (x.std + x.save)) ∧ W.cell? ⟨v2.heap.size, 1, none⟩ = some (.int .i64 x.save) ∧ W.cell? ⟨v2.heap.size, 2, none⟩ = some (.string AB))) := Lib.hid (fun W h => by
            have k := (h.block (v2.heap.size) PL).trans P3
            exact ⟨B3.trans (h.mono B3.size), cell_of k rfl, cell_of k rfl, cell_of k rfl⟩)
          try clear m0 m5 m4
          try clear k9 p0 p1 p2 f0 f1 f2
          clear hvA B3 P3 PL c0 c1 c2 q5 q4 n0 n5 n4 h9v H9 HDA HAA
          have hA0 := HPA.out _ (Below.refl _ _)
          obtain ⟨hbx, ⟨q5, _⟩, ⟨_, _, _, _, q4⟩, _⟩ := HQ.out _ hA0.1
          obtain ⟨⟨c0, c1, c2⟩, _, _⟩ := HC.out _ hbx
          have HBX := Lib.hid hbx
          clear hbx hA0
          go_wp2_with fail
          refine (T2.out _ HBX.out).mono ?_
          rintro e wB ⟨rfl, h9⟩
          clear c0 c1 c2 q5 q4
          have hBV : Below vA.heap.size vA (wB.alloc (.cells #[.int .i64 (x.std + x.save), .int .i64 x.save, .string AB] 28)) := Below.alloc h9 h9.size _
          have HPB : Hid (∀ W, Below (wB.alloc (.cells #[.int .i64 (x.std + x.save), .int .i64 x.save, .string AB] 28)).heap.size (wB.alloc (.cells #[.int .i64 (x.std + x.save), .int .i64 x.save, .string AB] 28)) W → Below vA.heap.size vA W ∧ (W.cell? ⟨wB.heap.size, 0, none⟩ = some (.int .i64 (x.std + x.save)) ∧ W.cell? ⟨wB.heap.size, 1, none⟩ = some (.int .i64 x.save) ∧ W.cell? ⟨wB.heap.size, 2, none⟩ = some (.string AB))) := Lib.hid (fun W h => by
            have k := (h.block wB.heap.size (by simp)).trans (World.alloc_heap_new wB (.cells #[.int .i64 (x.std + x.save), .int .i64 x.save, .string AB] 28))
            exact ⟨hBV.trans (h.mono hBV.size), cell_of k rfl, cell_of k rfl, cell_of k rfl⟩)
          have HBV := Lib.hid hBV
          clear hBV h9
          go_wp2_with fail
          refine (B1.out _ (HQ.out _ (HPA.out _ HBV.out).1).1).mono ?_
          rintro e w10 ⟨rfl, h10⟩
          have hB1 := HPB.out _ h10
          have hA1 := HPA.out _ hB1.1
          obtain ⟨a0, a1', a2'⟩ := hA1.2
          obtain ⟨b0, b1, b2'⟩ := hB1.2
          obtain ⟨_, _, ⟨q0, q1, q2, q3, q4⟩, hbw⟩ := HQ.out _ hA1.1
          have HBW := Lib.hid hbw
          clear hA1 hB1 h10 hbw
          go_wp2
          go_ret
          exact ⟨rfl, HBW.out⟩
      · have gs : (x.set != -1) = true := by simpa using hs
        go_wp2_with fail
        refine (B1.out _ HV2.out).mono ?_
        rintro e w10 ⟨rfl, h10⟩
        obtain ⟨_, _, ⟨q0, q1, q2, q3, q4⟩, hbw⟩ := HQ.out _ h10
        go_wp2
        go_ret
        exact ⟨rfl, hbw⟩
    · have gc : decide ((0 : Int) < CE) = false := by simpa using hce
      have hc0 : CE.toNat = 0 := by omega
      have hfr : aheadOf es2 CE.toNat = 0 := by rw [hc0]; rfl
      rw [hfr] at t3 t4 HBA
      clear hfr hc0 hxq
      have hv2 : BoxB d w (v1.alloc (.cells #[.int .i64 x.std, .int .i64 x.set, .int .i64 x.save, .string x.fmt, .int .i64 x.til] 39)) := Below.alloc (HO.out _ (Below.refl _ _)).1 (by have := ((HO.out _ (Below.refl _ _)).1).size; simpa using this) _
      have HQ : Hid (∀ W, Below (v1.alloc (.cells #[.int .i64 x.std, .int .i64 x.set, .int .i64 x.save, .string x.fmt, .int .i64 x.til] 39)).heap.size (v1.alloc (.cells #[.int .i64 x.std, .int .i64 x.set, .int .i64 x.save, .string x.fmt, .int .i64 x.til] 39)) W → BoxB d w W ∧ (W.cell? ⟨u1.heap.size, 0, none⟩ = some (.string zn0) ∧ W.cell? ⟨u1.heap.size, 1, none⟩ = some (.slice (some ⟨b2, o2, none⟩) n2 cap2)) ∧ (W.cell? ⟨v1.heap.size, 0, none⟩ = some (.int .i64 x.std) ∧ W.cell? ⟨v1.heap.size, 1, none⟩ = some (.int .i64 x.set) ∧ W.cell? ⟨v1.heap.size, 2, none⟩ = some (.int .i64 x.save) ∧ W.cell? ⟨v1.heap.size, 3, none⟩ = some (.string x.fmt) ∧ W.cell? ⟨v1.heap.size, 4, none⟩ = some (.int .i64 x.til)) ∧ Below w.heap.size w W) := Lib.hid (fun W h => by
        have k := (h.block v1.heap.size (by simp)).trans (World.alloc_heap_new v1 (.cells #[.int .i64 x.std, .int .i64 x.set, .int .i64 x.save, .string x.fmt, .int .i64 x.til] 39))
        have hz := HO.out W (((Below.refl _ _).alloc (Nat.le_refl _) _).trans (h.mono (by simp)))
        exact ⟨hz.1, ⟨hz.2.1, hz.2.2⟩, ⟨cell_of k rfl, cell_of k rfl, cell_of k rfl, cell_of k rfl, cell_of k rfl⟩, (HC.out W hz.1).2.2⟩)
      have HV2 := Lib.hid hv2
      clear hv2
      have gt1 : decide (x.til ≤ (0 : Int)) = false := by simp; omega
      have gt2 : decide ((0 : Int) < x.til) = true := by simp; omega
      by_cases hs : x.set = -1
      · have gs : (x.set != -1) = false := by simpa using hs
        have hba2 := HBA.out (by omega)
        have bd3 := chooseN_bd a3 (x.til) (by omega)
        have CH3 : Hid (∀ W, Calls Tryd.prog 9 #[.int .i64 a3, .int .i64 (x.til)] W fun e w' => e = .returned (.int .i64 (chooseN a3 (x.til))) ∧ W = w') := Lib.hid (fun W => choose_any a3 (x.til) W h3 (by omega) (by omega))
        have ATg : ∀ T, 0 ≤ T → T < x.til → Hid (∀ W, BoxB d w W → Calls Tryd.prog 5 #[.agg #[.slice d.sA d.sn d.sc, .slice (some ⟨b, o, none⟩) d.zn d.zc, .slice d.lA d.ln d.lc], .string zn0, .int .i64 T] W fun e w' => e = .returned (.tuple #[.agg #[.int .i64 (x.std + x.save), .int .i64 x.save, .string (repl x.fmt ⟨#[]⟩)], .int .i64 0]) ∧ Below W.heap.size W w') := fun T q1 q2 => Lib.hid (fun W hb => by
          have h9 := hba2 T q1 q2
          have := HAT.out T W hb
          rwa [h9.1, h9.2.1, h9.2.2.1, h9.2.2.2] at this)
        obtain ⟨CT, hCT⟩ : ∃ v, v = chooseN a3 (x.til) := ⟨_, rfl⟩
        rw [← hCT] at CH3 bd3
        obtain ⟨j1, j2⟩ := bd3
        have T1 := ATg (CT) (by omega) (by omega)
        have T2 := ATg (x.til - 1) (by omega) (by omega)
        obtain ⟨AB, hAB⟩ : ∃ v, v = repl x.fmt ⟨#[]⟩ := ⟨_, rfl⟩
        rw [← hAB] at T1 T2
        have gw1 : IntKind.i64.wrap (x.til) = x.til := wrap_mid (by omega) (by omega)
        have gw2 : IntKind.i64.wrap (CT) = CT := wrap_mid (by omega) (by omega)
        have gw3 : IntKind.i64.wrap (x.til - 1) = x.til - 1 := wrap_mid (by omega) (by omega)
        have gw4 : IntKind.i64.wrap (x.std + x.save) = x.std + x.save := wrap_mid (by omega) (by omega)
        clear ATg hba2 hCT hAB hs
        go_wp2_with fail
        obtain ⟨v2, hv⟩ : ∃ v : World, v = v1.alloc (.cells #[.int .i64 x.std, .int .i64 x.set, .int .i64 x.save, .string x.fmt, .int .i64 x.til] 39) := ⟨_, rfl⟩
        rw [← hv] at HQ HV2
        rw [← hv]
        clear hv
        clear x0 x1 x2 x3 x4 z0 z1
        have HDA : Hid (Below v2.heap.size v2 v2.drew) := Lib.hid (Below.refl _ _).drew
        have HAA : Hid (Below v2.heap.size v2 (v2.alloc (.cells #[.int .i64 0, .int .i64 0, .string ⟨#[]⟩] 28)).drew) := Lib.hid (Below.alloc (Below.refl _ _) (Nat.le_refl _) _).drew
        obtain ⟨_, ⟨q5, _⟩, ⟨_, _, _, _, q4⟩, _⟩ := HQ.out _ (HDA.out)
        obtain ⟨⟨c0, c1, c2⟩, _, _⟩ := HC.out _ (HQ.out _ (HDA.out)).1
        have n0 : v2.heap.size ≠ w.heap.size := World.new_ne v2 _ c0
        have n5 : v2.heap.size ≠ u1.heap.size := World.new_ne v2 _ q5
        have n4 : v2.heap.size ≠ v1.heap.size := World.new_ne v2 _ q4
        go_region_held3 (fun w' => (w'.cell? ⟨w.heap.size, 0, none⟩ = some (.slice d.sA d.sn d.sc) ∧ w'.cell? ⟨w.heap.size, 1, none⟩ = some (.slice (some ⟨b, o, none⟩) d.zn d.zc) ∧ w'.cell? ⟨w.heap.size, 2, none⟩ = some (.slice d.lA d.ln d.lc)) ∧ w'.cell? ⟨u1.heap.size, 0, none⟩ = some (.string zn0) ∧ w'.cell? ⟨v1.heap.size, 4, none⟩ = some (.int .i64 x.til))
          (refine ⟨⟨?_, ?_, ?_⟩, ?_, ?_⟩ <;> (first | with_reducible exact c0 | with_reducible exact c1 | with_reducible exact c2 | with_reducible exact q5 | with_reducible exact q4 | with_reducible exact alloc_keep c0 | with_reducible exact alloc_keep c1 | with_reducible exact alloc_keep c2 | with_reducible exact alloc_keep q5 | with_reducible exact alloc_keep q4 | with_reducible exact alloc_keep2 c0 | with_reducible exact alloc_keep2 c1 | with_reducible exact alloc_keep2 c2 | with_reducible exact alloc_keep2 q5 | with_reducible exact alloc_keep2 q4 | (rw [far3 n0]; first | with_reducible exact c0 | with_reducible exact c1 | with_reducible exact c2) | (rw [far3 n5]; with_reducible exact q5) | (rw [far3 n4]; with_reducible exact q4) | (trace_state; fail)))
          (first
            | (go_at_call 9; refine (CH3.out _).mono ?_; rintro e wch ⟨rfl, rfl⟩)
            | (go_at_call 5; refine (T1.out _ (HQ.out _ (HDA.out)).1).mono ?_; rintro e wA ⟨rfl, h9⟩; have h9v := HDA.out.trans (h9.mono HDA.out.size); have H9 := Lib.hid h9; clear h9 c0 c1 c2 q5 q4; obtain ⟨⟨c0, c1, c2⟩, _, _⟩ := HC.out _ (HQ.out _ (h9v)).1; obtain ⟨_, ⟨q5, _⟩, ⟨_, _, _, _, q4⟩, _⟩ := HQ.out _ (h9v); have m0 := World.new_ne wA _ c0; have m5 := World.new_ne wA _ q5; have m4 := World.new_ne wA _ q4)
            | (go_at_call 5; refine (T1.out _ (HQ.out _ (HAA.out)).1).mono ?_; rintro e wA ⟨rfl, h9⟩; have h9v := HAA.out.trans (h9.mono HAA.out.size); have k9 : wA.heap[v2.heap.size]? = some (.cells #[.int .i64 0, .int .i64 0, .string ⟨#[]⟩] 28) := (h9.block _ (by simp)).trans (World.alloc_heap_new v2 _); have H9 := Lib.hid h9; clear h9 c0 c1 c2 q5 q4; obtain ⟨⟨c0, c1, c2⟩, _, _⟩ := HC.out _ (HQ.out _ (h9v)).1; obtain ⟨_, ⟨q5, _⟩, ⟨_, _, _, _, q4⟩, _⟩ := HQ.out _ (h9v); have p0 : wA.cell? ⟨v2.heap.size, 0, none⟩ = some (.int .i64 0) := cell_of k9 rfl; have p1 : wA.cell? ⟨v2.heap.size, 1, none⟩ = some (.int .i64 0) := cell_of k9 rfl; have p2 : wA.cell? ⟨v2.heap.size, 2, none⟩ = some (.string ⟨#[]⟩) := cell_of k9 rfl; have f0 : wA.frozen? ⟨v2.heap.size, 0, none⟩ = false := frozen_of k9; have f1 : wA.frozen? ⟨v2.heap.size, 1, none⟩ = false := frozen_of k9; have f2 : wA.frozen? ⟨v2.heap.size, 2, none⟩ = false := frozen_of k9))
        · have B3 : Below v2.heap.size v2 (wA.alloc (.cells #[.int .i64 (x.std + x.save), .int .i64 x.save, .string AB] 28)) := Below.alloc h9v h9v.size _
          have P3 : (wA.alloc (.cells #[.int .i64 (x.std + x.save), .int .i64 x.save, .string AB] 28)).heap[wA.heap.size]? = some (.cells #[.int .i64 (x.std + x.save), .int .i64 x.save, .string AB] 28) := World.alloc_heap_new _ _
          obtain ⟨vA, hvA⟩ : ∃ v : World, v = wA.alloc (.cells #[.int .i64 (x.std + x.save), .int .i64 x.save, .string AB] 28) := ⟨_, rfl⟩
          rw [← hvA] at B3 P3
          rw [← hvA]
          have PL : wA.heap.size < vA.heap.size := by
            rcases Nat.lt_or_ge (wA.heap.size) vA.heap.size with q | q
            · exact q
            · rw [Array.getElem?_eq_none q] at P3; cases P3
          have HPA : Hid (∀ W, Below vA.heap.size vA W → Below v2.heap.size v2 W ∧ (W.cell? ⟨wA.heap.size, 0, none⟩ = some (.int .i64 (x.std + x.save)) ∧ W.cell? ⟨wA.heap.size, 1, none⟩ = some (.int .i64 x.save) ∧ W.cell? ⟨wA.heap.size, 2, none⟩ = some (.string AB))) := Lib.hid (fun W h => by
            have k := (h.block (wA.heap.size) PL).trans P3
            exact ⟨B3.trans (h.mono B3.size), cell_of k rfl, cell_of k rfl, cell_of k rfl⟩)
          try clear m0 m5 m4
          try clear k9 p0 p1 p2 f0 f1 f2
          clear hvA B3 P3 PL c0 c1 c2 q5 q4 n0 n5 n4 h9v H9 HDA HAA
          have hA0 := HPA.out _ (Below.refl _ _)
          obtain ⟨hbx, ⟨q5, _⟩, ⟨_, _, _, _, q4⟩, _⟩ := HQ.out _ hA0.1
          obtain ⟨⟨c0, c1, c2⟩, _, _⟩ := HC.out _ hbx
          have HBX := Lib.hid hbx
          clear hbx hA0
          go_wp2_with fail
          refine (T2.out _ HBX.out).mono ?_
          rintro e wB ⟨rfl, h9⟩
          clear c0 c1 c2 q5 q4
          have hBV : Below vA.heap.size vA (wB.alloc (.cells #[.int .i64 (x.std + x.save), .int .i64 x.save, .string AB] 28)) := Below.alloc h9 h9.size _
          have HPB : Hid (∀ W, Below (wB.alloc (.cells #[.int .i64 (x.std + x.save), .int .i64 x.save, .string AB] 28)).heap.size (wB.alloc (.cells #[.int .i64 (x.std + x.save), .int .i64 x.save, .string AB] 28)) W → Below vA.heap.size vA W ∧ (W.cell? ⟨wB.heap.size, 0, none⟩ = some (.int .i64 (x.std + x.save)) ∧ W.cell? ⟨wB.heap.size, 1, none⟩ = some (.int .i64 x.save) ∧ W.cell? ⟨wB.heap.size, 2, none⟩ = some (.string AB))) := Lib.hid (fun W h => by
            have k := (h.block wB.heap.size (by simp)).trans (World.alloc_heap_new wB (.cells #[.int .i64 (x.std + x.save), .int .i64 x.save, .string AB] 28))
            exact ⟨hBV.trans (h.mono hBV.size), cell_of k rfl, cell_of k rfl, cell_of k rfl⟩)
          have HBV := Lib.hid hBV
          clear hBV h9
          go_wp2_with fail
          refine (B1.out _ (HQ.out _ (HPA.out _ HBV.out).1).1).mono ?_
          rintro e w10 ⟨rfl, h10⟩
          have hB1 := HPB.out _ h10
          have hA1 := HPA.out _ hB1.1
          obtain ⟨a0, a1', a2'⟩ := hA1.2
          obtain ⟨b0, b1, b2'⟩ := hB1.2
          obtain ⟨_, _, ⟨q0, q1, q2, q3, q4⟩, hbw⟩ := HQ.out _ hA1.1
          have HBW := Lib.hid hbw
          clear hA1 hB1 h10 hbw
          go_wp2
          go_ret
          exact ⟨rfl, HBW.out⟩
        · have B3 : Below v2.heap.size v2 (((wA.setCell ⟨v2.heap.size, 0, none⟩ (.int .i64 (x.std + x.save))).setCell ⟨v2.heap.size, 1, none⟩ (.int .i64 x.save)).setCell ⟨v2.heap.size, 2, none⟩ (.string AB)) := ((h9v.setCell (Nat.le_refl _) _).setCell (Nat.le_refl _) _).setCell (Nat.le_refl _) _
          have P3 : (((wA.setCell ⟨v2.heap.size, 0, none⟩ (.int .i64 (x.std + x.save))).setCell ⟨v2.heap.size, 1, none⟩ (.int .i64 x.save)).setCell ⟨v2.heap.size, 2, none⟩ (.string AB)).heap[v2.heap.size]? = some (.cells #[.int .i64 (x.std + x.save), .int .i64 x.save, .string AB] 28) := (set_obj (set_obj (set_obj k9 _) _) _).trans rfl
          obtain ⟨vA, hvA⟩ : ∃ v : World, v = (((wA.setCell ⟨v2.heap.size, 0, none⟩ (.int .i64 (x.std + x.save))).setCell ⟨v2.heap.size, 1, none⟩ (.int .i64 x.save)).setCell ⟨v2.heap.size, 2, none⟩ (.string AB)) := ⟨_, rfl⟩
          rw [← hvA] at B3 P3
          rw [← hvA]
          have PL : v2.heap.size < vA.heap.size := by
            rcases Nat.lt_or_ge (v2.heap.size) vA.heap.size with q | q
            · exact q
            · rw [Array.getElem?_eq_none q] at P3; cases P3
          have HPA : Hid (∀ W, Below vA.heap.size vA W → Below v2.heap.size v2 W ∧ (W.cell? ⟨v2.heap.size, 0, none⟩ = some (.int .i64 (x.std + x.save)) ∧ W.cell? ⟨v2.heap.size, 1, none⟩ = some (.int .i64 x.save) ∧ W.cell? ⟨v2.heap.size, 2, none⟩ = some (.string AB))) := Lib.hid (fun W h => by
            have k := (h.block (v2.heap.size) PL).trans P3
            exact ⟨B3.trans (h.mono B3.size), cell_of k rfl, cell_of k rfl, cell_of k rfl⟩)
          try clear m0 m5 m4
          try clear k9 p0 p1 p2 f0 f1 f2
          clear hvA B3 P3 PL c0 c1 c2 q5 q4 n0 n5 n4 h9v H9 HDA HAA
          have hA0 := HPA.out _ (Below.refl _ _)
          obtain ⟨hbx, ⟨q5, _⟩, ⟨_, _, _, _, q4⟩, _⟩ := HQ.out _ hA0.1
          obtain ⟨⟨c0, c1, c2⟩, _, _⟩ := HC.out _ hbx
          have HBX := Lib.hid hbx
          clear hbx hA0
          go_wp2_with fail
          refine (T2.out _ HBX.out).mono ?_
          rintro e wB ⟨rfl, h9⟩
          clear c0 c1 c2 q5 q4
          have hBV : Below vA.heap.size vA (wB.alloc (.cells #[.int .i64 (x.std + x.save), .int .i64 x.save, .string AB] 28)) := Below.alloc h9 h9.size _
          have HPB : Hid (∀ W, Below (wB.alloc (.cells #[.int .i64 (x.std + x.save), .int .i64 x.save, .string AB] 28)).heap.size (wB.alloc (.cells #[.int .i64 (x.std + x.save), .int .i64 x.save, .string AB] 28)) W → Below vA.heap.size vA W ∧ (W.cell? ⟨wB.heap.size, 0, none⟩ = some (.int .i64 (x.std + x.save)) ∧ W.cell? ⟨wB.heap.size, 1, none⟩ = some (.int .i64 x.save) ∧ W.cell? ⟨wB.heap.size, 2, none⟩ = some (.string AB))) := Lib.hid (fun W h => by
            have k := (h.block wB.heap.size (by simp)).trans (World.alloc_heap_new wB (.cells #[.int .i64 (x.std + x.save), .int .i64 x.save, .string AB] 28))
            exact ⟨hBV.trans (h.mono hBV.size), cell_of k rfl, cell_of k rfl, cell_of k rfl⟩)
          have HBV := Lib.hid hBV
          clear hBV h9
          go_wp2_with fail
          refine (B1.out _ (HQ.out _ (HPA.out _ HBV.out).1).1).mono ?_
          rintro e w10 ⟨rfl, h10⟩
          have hB1 := HPB.out _ h10
          have hA1 := HPA.out _ hB1.1
          obtain ⟨a0, a1', a2'⟩ := hA1.2
          obtain ⟨b0, b1, b2'⟩ := hB1.2
          obtain ⟨_, _, ⟨q0, q1, q2, q3, q4⟩, hbw⟩ := HQ.out _ hA1.1
          have HBW := Lib.hid hbw
          clear hA1 hB1 h10 hbw
          go_wp2
          go_ret
          exact ⟨rfl, HBW.out⟩
        · have B3 : Below v2.heap.size v2 (((wA.setCell ⟨v2.heap.size, 0, none⟩ (.int .i64 (x.std + x.save))).setCell ⟨v2.heap.size, 1, none⟩ (.int .i64 x.save)).setCell ⟨v2.heap.size, 2, none⟩ (.string AB)) := ((h9v.setCell (Nat.le_refl _) _).setCell (Nat.le_refl _) _).setCell (Nat.le_refl _) _
          have P3 : (((wA.setCell ⟨v2.heap.size, 0, none⟩ (.int .i64 (x.std + x.save))).setCell ⟨v2.heap.size, 1, none⟩ (.int .i64 x.save)).setCell ⟨v2.heap.size, 2, none⟩ (.string AB)).heap[v2.heap.size]? = some (.cells #[.int .i64 (x.std + x.save), .int .i64 x.save, .string AB] 28) := (set_obj (set_obj (set_obj k9 _) _) _).trans rfl
          obtain ⟨vA, hvA⟩ : ∃ v : World, v = (((wA.setCell ⟨v2.heap.size, 0, none⟩ (.int .i64 (x.std + x.save))).setCell ⟨v2.heap.size, 1, none⟩ (.int .i64 x.save)).setCell ⟨v2.heap.size, 2, none⟩ (.string AB)) := ⟨_, rfl⟩
          rw [← hvA] at B3 P3
          rw [← hvA]
          have PL : v2.heap.size < vA.heap.size := by
            rcases Nat.lt_or_ge (v2.heap.size) vA.heap.size with q | q
            · exact q
            · rw [Array.getElem?_eq_none q] at P3; cases P3
          have HPA : Hid (∀ W, Below vA.heap.size vA W → Below v2.heap.size v2 W ∧ (W.cell? ⟨v2.heap.size, 0, none⟩ = some (.int .i64 (x.std + x.save)) ∧ W.cell? ⟨v2.heap.size, 1, none⟩ = some (.int .i64 x.save) ∧ W.cell? ⟨v2.heap.size, 2, none⟩ = some (.string AB))) := Lib.hid (fun W h => by
            have k := (h.block (v2.heap.size) PL).trans P3
            exact ⟨B3.trans (h.mono B3.size), cell_of k rfl, cell_of k rfl, cell_of k rfl⟩)
          try clear m0 m5 m4
          try clear k9 p0 p1 p2 f0 f1 f2
          clear hvA B3 P3 PL c0 c1 c2 q5 q4 n0 n5 n4 h9v H9 HDA HAA
          have hA0 := HPA.out _ (Below.refl _ _)
          obtain ⟨hbx, ⟨q5, _⟩, ⟨_, _, _, _, q4⟩, _⟩ := HQ.out _ hA0.1
          obtain ⟨⟨c0, c1, c2⟩, _, _⟩ := HC.out _ hbx
          have HBX := Lib.hid hbx
          clear hbx hA0
          go_wp2_with fail
          refine (T2.out _ HBX.out).mono ?_
          rintro e wB ⟨rfl, h9⟩
          clear c0 c1 c2 q5 q4
          have hBV : Below vA.heap.size vA (wB.alloc (.cells #[.int .i64 (x.std + x.save), .int .i64 x.save, .string AB] 28)) := Below.alloc h9 h9.size _
          have HPB : Hid (∀ W, Below (wB.alloc (.cells #[.int .i64 (x.std + x.save), .int .i64 x.save, .string AB] 28)).heap.size (wB.alloc (.cells #[.int .i64 (x.std + x.save), .int .i64 x.save, .string AB] 28)) W → Below vA.heap.size vA W ∧ (W.cell? ⟨wB.heap.size, 0, none⟩ = some (.int .i64 (x.std + x.save)) ∧ W.cell? ⟨wB.heap.size, 1, none⟩ = some (.int .i64 x.save) ∧ W.cell? ⟨wB.heap.size, 2, none⟩ = some (.string AB))) := Lib.hid (fun W h => by
            have k := (h.block wB.heap.size (by simp)).trans (World.alloc_heap_new wB (.cells #[.int .i64 (x.std + x.save), .int .i64 x.save, .string AB] 28))
            exact ⟨hBV.trans (h.mono hBV.size), cell_of k rfl, cell_of k rfl, cell_of k rfl⟩)
          have HBV := Lib.hid hBV
          clear hBV h9
          go_wp2_with fail
          refine (B1.out _ (HQ.out _ (HPA.out _ HBV.out).1).1).mono ?_
          rintro e w10 ⟨rfl, h10⟩
          have hB1 := HPB.out _ h10
          have hA1 := HPA.out _ hB1.1
          obtain ⟨a0, a1', a2'⟩ := hA1.2
          obtain ⟨b0, b1, b2'⟩ := hB1.2
          obtain ⟨_, _, ⟨q0, q1, q2, q3, q4⟩, hbw⟩ := HQ.out _ hA1.1
          have HBW := Lib.hid hbw
          clear hA1 hB1 h10 hbw
          go_wp2
          go_ret
          exact ⟨rfl, HBW.out⟩
      · have gs : (x.set != -1) = true := by simpa using hs
        go_wp2_with fail
        refine (B1.out _ HV2.out).mono ?_
        rintro e w10 ⟨rfl, h10⟩
        obtain ⟨_, _, ⟨q0, q1, q2, q3, q4⟩, hbw⟩ := HQ.out _ h10
        go_wp2
        go_ret
        exact ⟨rfl, hbw⟩
theorem offBare_walk (d : Dt) (a1 a2 a3 : Int) (w : World) (h1 : (Lit.int .i64 a1).wf = true) (h2 : (Lit.int .i64 a2).wf = true) (h3 : (Lit.int .i64 a3).wf = true) (hD : DataAt w w.heap.size d) (hM : MaxAt w w.heap.size) :
    Calls Tryd.prog 4 #[d.val, .int .i64 a1, .int .i64 a2, .int .i64 a3] w fun e w' => e = .returned (.bool true) ∧ Below w.heap.size w w' := by
  by_cases hE : dataE d = 0
  · by_cases hz : 0 < d.zn
    · exact offBare_good d a1 a2 a3 w h1 h2 h3 hD hM hE hz
    · exact offBare_bad d a1 a2 a3 w hD hM (.inr (by omega))
  · exact offBare_bad d a1 a2 a3 w hD hM (.inl hE)
end Go.Proofs.YtlngalmdidaahaaDoor
end
