/- The walk of TableMost. -/
import Derived.Test.YtlngalmdidaahaaGreatDoorMTableSameRow0
import Derived.Test.YtlngalmdidaahaaGreatDoorMTableSameRow1
import Derived.Test.YtlngalmdidaahaaGreatDoorMTableSameRow2
import Derived.Test.YtlngalmdidaahaaGreatDoorMTableSameRow3
import Derived.Test.YtlngalmdidaahaaGreatDoorMTableSameRow4
import Derived.Test.YtlngalmdidaahaaGreatDoorMTableSameRow5
import Derived.Test.YtlngalmdidaahaaGreatDoorMTableSameRow6
import Derived.Test.YtlngalmdidaahaaGreatDoorMTableSameRow7
import Derived.Test.YtlngalmdidaahaaGreatDoorMTableSameRow8
import Derived.Test.YtlngalmdidaahaaGreatDoorMTableSameRow9
import Derived.Test.YtlngalmdidaahaaGreatDoorMTableSameRow10
import Derived.Test.YtlngalmdidaahaaGreatDoorMTableSameRow11
import Derived.Test.YtlngalmdidaahaaGreatDoorMTableSameRow12
import Derived.Test.YtlngalmdidaahaaGreatDoorMTableSameRow13
import Derived.Test.YtlngalmdidaahaaGreatDoorMTableSameRow14
import Derived.Test.YtlngalmdidaahaaGreatDoorMTableSameRow15
import Derived.Test.YtlngalmdidaahaaGreatDoorMTableSameRow16
import Derived.Test.YtlngalmdidaahaaGreatDoorMTableSameRow17
import Derived.Test.YtlngalmdidaahaaGreatDoorMTableSameRow18
import Derived.Test.YtlngalmdidaahaaGreatDoorMTableSameRow19
import Derived.Test.YtlngalmdidaahaaGreatDoorMTableSameRow20
import Derived.Test.YtlngalmdidaahaaGreatDoorMTableSameRow21
import Derived.Test.YtlngalmdidaahaaGreatDoorMTableSameRow22
import Derived.Test.YtlngalmdidaahaaGreatDoorMTableSameRow23
import Derived.Test.YtlngalmdidaahaaGreatDoorMTableSameRow24
import Derived.Test.YtlngalmdidaahaaGreatDoorMTableSameRow25
import Derived.Test.YtlngalmdidaahaaGreatDoorMTableSameRow26
import Derived.Test.YtlngalmdidaahaaGreatDoorMTableSameRow27
import Derived.Test.YtlngalmdidaahaaGreatDoorMTableSameRow28
import Derived.Test.YtlngalmdidaahaaGreatDoorMTableSameRow29
import Derived.Test.YtlngalmdidaahaaGreatDoorMTableSameRow30
import Derived.Test.YtlngalmdidaahaaGreatDoorMTableSameRow31
import Derived.Test.YtlngalmdidaahaaGreatDoorMTableSameRow32
import Derived.Test.YtlngalmdidaahaaGreatDoorMTableSameRow33
import Derived.Test.YtlngalmdidaahaaGreatDoorMTableSameRow34
import Derived.Test.YtlngalmdidaahaaGreatDoorMTableSameRow35
import Derived.Test.YtlngalmdidaahaaGreatDoorMTableSameRow36
import Derived.Test.YtlngalmdidaahaaGreatDoorMTableSameRow37
import Derived.Test.YtlngalmdidaahaaGreatDoorMTableSameRow38
import Derived.Test.YtlngalmdidaahaaGreatDoorMTableSameRow39
import Derived.Test.YtlngalmdidaahaaGreatDoorMTableSameRow40
import Derived.Test.YtlngalmdidaahaaGreatDoorMTableSameRow41
import Derived.Test.YtlngalmdidaahaaGreatDoorQMostP
set_option linter.unusedSimpArgs false
set_option linter.unusedVariables false
set_option linter.unusedVariables false
namespace Go.Proofs.YtlngalmdidaahaaGreatDoor
open Go.RowKit Gno
theorem tabN_most {d : Dt} {nm : ByteArray} {z : Zn} (he : zoneEr d nm = 0) (hz : d.zs[(zoneK d nm).toNat]? = some z) : ((tabN d nm).length : Int) ≤ mostE d z.es z.es.length := by
  obtain ⟨hd0, z', hzq, hoz, hzm, _, _⟩ := zone_there he
  rw [(tab_zone he hz).2.2.1]
  exact comp_most (rightE_of hd0) z.es z.es.length
set_option maxRecDepth 100000 in
set_option maxHeartbeats 4000000 in
theorem tableMost_bad (d : Dt) (nm : ByteArray) (w : World) (hD : DataAt w w.heap.size d) (hM : MaxAt w w.heap.size) (hz : zoneEr d nm ≠ 0) :
    Calls Tryz.prog 5 #[d.val, .string nm] w fun e w' => e = .returned (.bool true) ∧ Below w.heap.size w w' := by
  have HN := Lib.hid (fun W (hb : BoxB d w W) => box_next (d := d) (w := w) (W := W) hD hb)
  have CO := Lib.hid (fun W (hb : BoxB d w W) => compile_any d nm W (HN.out W hb).2.1 (hM.next (HN.out W hb).1))
  have Z1 := Lib.hid (fun W (hb : BoxB d w W) => zone_any d nm W (HN.out W hb).2.1 (hM.next (HN.out W hb).1))
  have B1 := Lib.hid (fun W (hb : BoxB d w W) => tableBegun_any W (hM.next (HN.out W hb).1))
  clear hD hM
  unfold Dt.val at *
  obtain ⟨LL, hLL⟩ : ∃ v, v = (tabN d nm).length := ⟨_, rfl⟩
  obtain ⟨KK, hK⟩ : ∃ v, v = zoneK d nm := ⟨_, rfl⟩
  obtain ⟨EE, hEE⟩ : ∃ v, v = zoneEr d nm := ⟨_, rfl⟩
  rw [← hLL, ← hEE] at CO
  rw [← hK, ← hEE] at Z1
  rw [← hEE] at hz
  have g1 : (EE != 0) = true := by simpa using hz
  clear hz hLL hK hEE
  go_enter Tryz.func5, Tryz.ntmps5
  go_wp2_with fail
  refine (CO.out _ (Below.refl _ _)).mono ?_
  rintro e u1 ⟨A, cap, rfl, _, h1⟩
  have hb1 : BoxB d w u1 := h1.mono (by simp)
  obtain ⟨_, _, c0, c1, c2⟩ := HN.out _ hb1
  have HB1 := Lib.hid hb1
  clear h1 hb1
  go_wp2_with fail
  clear c0 c1 c2
  refine (Z1.out _ HB1.out).mono ?_
  rintro e u2 ⟨rfl, h2⟩
  have HB2 : Hid (BoxB d w u2) := Lib.hid (HB1.out.trans (h2.mono (by have := HB1.out.size; simpa using this)))
  clear h2
  go_wp2_with fail
  refine (B1.out _ HB2.out).mono ?_
  rintro e u3 ⟨rfl, h3⟩
  have hbw := (HN.out _ HB2.out).1.trans (h3.mono (HN.out _ HB2.out).1.size)
  clear h3
  go_wp2
  go_ret
  exact ⟨rfl, hbw⟩
set_option maxRecDepth 100000 in
set_option maxHeartbeats 8000000 in
theorem tableMost_good (d : Dt) (nm : ByteArray) (w : World) (hD : DataAt w w.heap.size d) (hM : MaxAt w w.heap.size) (hz : zoneEr d nm = 0) (z : Zn) (hzq : d.zs[(zoneK d nm).toNat]? = some z) :
    Calls Tryz.prog 5 #[d.val, .string nm] w fun e w' => e = .returned (.bool true) ∧ Below w.heap.size w w' := by
  have HN := Lib.hid (fun W (hb : BoxB d w W) => box_next (d := d) (w := w) (W := W) hD hb)
  obtain ⟨hd0, z', hzq', hoz, hzm, hk0, hk1⟩ := zone_there hz
  rw [hzq] at hzq'
  injection hzq' with hzq'
  subst hzq'
  obtain ⟨tz1, tz2, _, tz4⟩ := tab_zone hz hzq
  have hmost := tabN_most hz hzq
  have hr := rightE_of hd0
  have hef := eras_few hd0 hzm
  have hrf : ∀ s ∈ d.ss, s.rs.length ≤ 4 := fun s hs => by
    obtain ⟨i, hi⟩ := List.getElem?_of_mem hs
    have hil := (List.getElem?_eq_some_iff.1 hi).1
    obtain ⟨_, _, q, _, _, hq, _, hq2⟩ := sets_get hD.1 (i := i) (by have := hD.1.1; omega)
    rw [hi] at hq
    injection hq with hq
    subst hq
    have h1 := ((hq2 w (Below.refl _ _)).2).1
    have h2 := rules_few hd0 hs
    omega
  have hzn := hD.2.1.1
  have hfew : (tabN d nm).length ≤ 964 := tabN_few hD
  have CO := Lib.hid (fun W (hb : BoxB d w W) => compile_any d nm W (HN.out W hb).2.1 (hM.next (HN.out W hb).1))
  have CZ := Lib.hid (fun W (hb : BoxB d w W) => compile_any d z.name W (HN.out W hb).2.1 (hM.next (HN.out W hb).1))
  have Z1 := Lib.hid (fun W (hb : BoxB d w W) => zone_any d nm W (HN.out W hb).2.1 (hM.next (HN.out W hb).1))
  have B1 := Lib.hid (fun W (hb : BoxB d w W) => tableBegun_any W (hM.next (HN.out W hb).1))
  obtain ⟨b, o, q, hA, hbB, hq, hq1, hq2⟩ := zones_get hD.2.1 (i := (zoneK d nm).toNat) (by omega)
  rw [hzq] at hq
  injection hq with hq
  subst hq
  obtain ⟨zn0, A2, n2, cap2, es2⟩ := z
  have hE := (hq2 w (Below.refl _ _)).2
  have hEl : es2.length = n2 := hE.1
  replace hef : n2 ≤ 4 := hef
  have hpos : 0 < n2 := by
    rcases Nat.eq_zero_or_pos n2 with e | e
    · have he := hr.ends _ hzm
      have : es2.length = 0 := hEl.trans e
      have he : aheadOf es2 es2.length = 1893456000 := he
      rw [this] at he
      simp [aheadOf] at he
    · exact e
  obtain ⟨b2, o2, _, hA2, _, _, _, _⟩ := eras_get hE (i := 0) hpos
  have hA2' : A2 = some ⟨b2, o2, none⟩ := hA2
  clear hA2
  subst hA2'
  have HER : Hid (∀ j, j < n2 → ∃ x, es2[j]? = some x ∧ (-1 ≤ x.set ∧ x.set < d.sn) ∧ ∀ W, BoxB d w W → W.cell? ⟨b2, o2 + j * 5 + 1, none⟩ = some (.int .i64 x.set)) := Lib.hid (fun j hj => by
    obtain ⟨b3, o3, y, hA3, _, hy, _, hc⟩ := eras_get hE hj
    injection hA3 with hA3
    injection hA3 with e1 e2 _
    subst e1
    subst e2
    have h1 := eraOk_is (hr.eras _ hzm j y hy)
    exact ⟨y, hy, h1.2.1, fun W h => (hc W (HN.out W h).1).2.1⟩)
  have HSET : Hid (∀ x : Er, ¬ x.set < 0 → x.set < d.sn → ∃ b5 o5 s, d.sA = some ⟨b5, o5, none⟩ ∧ d.ss[x.set.toNat]? = some s ∧ s.n ≤ 4 ∧ (∀ r ∈ s.rs, r.e = 0) ∧ ∀ W, BoxB d w W → W.cell? ⟨b5, o5 + x.set.toNat * 2 + 1, none⟩ = some (.slice s.A s.n s.cap) ∧ RulesAt W W.heap.size s.A s.n s.rs) := Lib.hid (fun x h0 h1 => by
    obtain ⟨b5, o5, s, e1, e2, e3, e4, e5⟩ := sets_get hD.1 (i := x.set.toNat) (by omega)
    exact ⟨b5, o5, s, e1, e3, rules_few hd0 (List.mem_of_getElem? e3), hr.rules s (List.mem_of_getElem? e3), fun W h => by
      have h1 := (HN.out W h).1
      exact ⟨(e5 W h1).1.2, ((e5 W h1).2).more (by have := h1.size; omega)⟩⟩)
  have HMB := Lib.hid (fun k => mostE_bd hr hrf es2 k)
  have HDC : Hid (∀ W, BoxB d w W → (W.cell? ⟨w.heap.size, 0, none⟩ = some (.slice d.sA d.sn d.sc) ∧ W.cell? ⟨w.heap.size, 1, none⟩ = some (.slice (some ⟨b, o, none⟩) d.zn d.zc) ∧ W.cell? ⟨w.heap.size, 2, none⟩ = some (.slice d.lA d.ln d.lc))) := Lib.hid (fun W h => by
    have h1 := HN.out W h
    exact ⟨h1.2.2.1, hA ▸ h1.2.2.2.1, h1.2.2.2.2⟩)
  obtain ⟨K, hK⟩ : ∃ v, v = zoneK d nm := ⟨_, rfl⟩
  rw [← hK] at hk0 hk1 Z1 hq2
  have HZC : Hid (∀ W, BoxB d w W → (W.cell? ⟨b, o + K.toNat * 2, none⟩ = some (.string zn0) ∧ W.cell? ⟨b, o + K.toNat * 2 + 1, none⟩ = some (.slice (some ⟨b2, o2, none⟩) n2 cap2))) := Lib.hid (fun W h => ⟨(hq2 W (HN.out W h).1).1.1, (hq2 W (HN.out W h).1).1.2⟩)
  have HEL := Lib.hid hEl
  replace CZ : Hid (∀ W, BoxB d w W → Calls Tryz.prog 13 #[.agg #[.slice d.sA d.sn d.sc, .slice (some ⟨b, o, none⟩) d.zn d.zc, .slice d.lA d.ln d.lc], .string zn0] W fun e w' => ∃ A cap, e = .returned (.tuple #[.slice A (tabN d nm).length cap, .int .i64 0]) ∧ TurnsAt w' w'.heap.size A (tabN d nm).length (tabN d nm) ∧ Below W.heap.size W w') := Lib.hid (fun W h => by
    have := CZ.out W h
    unfold Dt.val at this
    rw [hA, show tabN d (⟨zn0, some ⟨b2, o2, none⟩, n2, cap2, es2⟩ : Zn).name = tabN d nm from tz2, show zoneEr d (⟨zn0, some ⟨b2, o2, none⟩, n2, cap2, es2⟩ : Zn).name = 0 from tz1] at this
    exact this)
  replace hmost : ((tabN d nm).length : Int) ≤ mostE d es2 es2.length := hmost
  obtain ⟨L, hL⟩ : ∃ v, v = tabN d nm := ⟨_, rfl⟩
  rw [← hL] at CO CZ hmost tz4 hfew
  have ST := Lib.hid (fun A A' n cap cap' W h1 h2 => sameTurns_any A A' n cap cap' L W h1 h2)
  obtain ⟨LL, hLL⟩ : ∃ v, v = L.length := ⟨_, rfl⟩
  rw [← hLL] at CO CZ hmost tz4 hfew
  rw [hz] at CO Z1
  have HMO : Hid ((LL : Int) ≤ mostE d es2 n2) := Lib.hid (by rw [← hEl]; exact hmost)
  have hkb : K < (d.zn : Int) := by omega
  have g1 : decide (K < (0 : Int)) = false := by simp; omega
  have g2 : decide ((d.zn : Int) ≤ K) = false := by simp; omega
  have g3 : decide ((1 : Int) ≤ (LL : Int)) = true := by simp; omega
  unfold Dt.val at *
  clear hd0 hzm hk1 tz1 tz2 hmost hr hrf hzn hA hbB hq1 hq2 hE hEl hK hz hzq hoz hL hLL hD hM
  go_enter Tryz.func5, Tryz.ntmps5
  go_wp2_with fail
  refine (CO.out _ (Below.refl _ _)).mono ?_
  rintro e u1 ⟨A, cap, rfl, hT, h1⟩
  have hb1 : BoxB d w u1 := h1.mono (by simp)
  obtain ⟨_, _, c0, c1, c2⟩ := HN.out _ hb1
  have HB1 := Lib.hid hb1
  have HT := Lib.hid hT
  clear hT h1 hb1
  go_wp2_with fail
  clear c0 c1 c2
  refine (Z1.out _ HB1.out).mono ?_
  rintro e u2 ⟨rfl, h2⟩
  have HB2 : Hid (BoxB d w u2) := Lib.hid (HB1.out.trans (h2.mono (by have := HB1.out.size; simpa using this)))
  have HT2 : Hid (TurnsAt u2 u2.heap.size A LL L) := Lib.hid (HT.out.next h2)
  clear h2
  obtain ⟨SA, hSA⟩ : ∃ v, v = d.sA := ⟨_, rfl⟩
  rw [← hSA] at HSET HDC CZ
  rw [← hSA]
  clear hSA HT HB1 CO Z1
  obtain ⟨c0, c1, c2⟩ := HDC.out _ HB2.out
  obtain ⟨z0, z1⟩ := HZC.out _ HB2.out
  go_wp2_with fail
  go_loopw [9, 10] (fun b9 b10 wr => ∃ j : Nat, j ≤ n2 ∧ b10 = .int .i64 j ∧ b9 = .int .i64 (mostE d es2 j) ∧ Hid (BoxB d w wr) ∧ Hid (Below u2.heap.size u2 wr)) (fun _ b10 _ => n2 - (intOf b10).toNat)
  case atStart => exact ⟨0, Nat.zero_le _, rfl, rfl, HB2, Lib.hid (Below.refl _ _)⟩
  case round =>
    clear c0 c1 c2 z0 z1
    obtain ⟨j, hj, rfl, rfl, hb, hbu⟩ := hrel
    obtain ⟨wo, hwo⟩ : ∃ wo : World, wo = wr := ⟨_, rfl⟩
    rw [← hwo] at hb hbu
    rw [← hwo]
    clear hwo
    obtain ⟨c0, c1, c2⟩ := HDC.out _ hb.out
    obtain ⟨z0, z1⟩ := HZC.out _ hb.out
    have hmb := HMB.out j
    by_cases hjt : j < n2
    · obtain ⟨x, hx, ⟨hx1, hx2⟩, hxc⟩ := HER.out j hjt
      have x1 := hxc _ hb.out
      have HST := Lib.hid (mostE_step (d := d) hx)
      have gw0 : IntKind.i64.wrap (mostE d es2 j + 1) = mostE d es2 j + 1 := wrap_small (by omega) (by omega)
      obtain ⟨ME, hME⟩ : ∃ v, v = mostE d es2 j := ⟨_, rfl⟩
      rw [← hME] at HST gw0 hmb
      rw [← hME]
      clear hx hxc hME
      by_cases hs : x.set < 0
      · have gs : decide (x.set < (0 : Int)) = true := by simpa using hs
        have HST2 : Hid (mostE d es2 (j + 1) = ME + 1) := Lib.hid (by rw [HST.out]; unfold mostX; rw [if_pos hs]; omega)
        go_wp2
        go_roundw
        case rel => exact ⟨j + 1, by omega, by go_num, by rw [HST2.out], hb, hbu⟩
        case measure => simp [intOf]; omega
      · obtain ⟨b5, o5, ⟨qn5, A6, n6, cap6, rs6⟩, hA5, hs5, hn6, hre6, hsc⟩ := HSET.out x (by omega) (by omega)
        have HMX := Lib.hid (show mostX d x = mostS rs6 n6 by
          have hl6 : rs6.length = n6 := ((hsc _ hb.out).2).1
          unfold mostX
          rw [if_neg (by omega), hs5]
          show mostS rs6 rs6.length = _
          rw [hl6])
        subst hA5
        have gs : decide (x.set < (0 : Int)) = false := by simp; omega
        have gs2 : decide ((d.sn : Int) ≤ x.set) = false := by simp; omega
        have hs0 : 0 ≤ x.set := by omega
        have hsn : x.set < (d.sn : Int) := by omega
        have HRS : Hid (∀ W, BoxB d w W → RulesAt W W.heap.size A6 n6 rs6) := Lib.hid (fun W h => (hsc W h).2)
        have HSC : Hid (∀ W, BoxB d w W → W.cell? ⟨b5, o5 + x.set.toNat * 2 + 1, none⟩ = some (.slice A6 n6 cap6)) := Lib.hid (fun W h => (hsc W h).1)
        replace hn6 : n6 ≤ 4 := hn6
        have HRE : Hid (∀ r ∈ rs6, r.e = 0) := Lib.hid hre6
        have HMB := Lib.hid (fun i => mostS_bd hre6 i)
        clear hs5 hre6 hsc
        go_wp2_with fail
        go_loopw [9, 12] (fun b9 b12 wr2 => ∃ i : Nat, i ≤ n6 ∧ b12 = .int .i64 i ∧ b9 = .int .i64 (ME + 1 + mostS rs6 i) ∧ Hid (BoxB d w wr2) ∧ Hid (Below u2.heap.size u2 wr2)) (fun _ b12 _ => n6 - (intOf b12).toNat)
        case atStart => exact ⟨0, Nat.zero_le _, rfl, by simp [mostS], hb, hbu⟩
        case round =>
          clear c0 c1 c2 z0 z1 x1
          obtain ⟨i, hi, rfl, rfl, hb2, hbu2⟩ := hrel
          obtain ⟨wq, hwq⟩ : ∃ v : World, v = wr := ⟨_, rfl⟩
          rw [← hwq] at hb2 hbu2
          rw [← hwq]
          clear hwq
          obtain ⟨c0, c1, c2⟩ := HDC.out _ hb2.out
          have s1 := HSC.out _ hb2.out
          by_cases hit : i < n6
          · obtain ⟨b7, o7, r, hA7, _, hr7, _, hrc⟩ := RulesAt.get (HRS.out _ hb2.out) (i := i) hit
            obtain ⟨e0, e1, e2, e3, e4, e5, e6, e7, e8⟩ := hrc _ (Below.refl _ _)
            have hym := yearsM_is (HRE.out r (List.mem_of_getElem? hr7))
            have hmb := HMB.out i
            have HST := Lib.hid (mostS_step hr7)
            subst hA7
            obtain ⟨hfy, _⟩ := years_few (HRE.out r (List.mem_of_getElem? hr7))
            obtain ⟨hB9, _⟩ := ruleE_zero (HRE.out r (List.mem_of_getElem? hr7))
            obtain ⟨p1, p2, p3, _⟩ := (ruleBasic_iff _ _ _ _ _).1 hB9
            have gmin : min 2029 r.ty = r.ty := by omega
            have gmax : max 1970 r.fy = r.fy := by omega
            have gw1 : IntKind.i64.wrap (r.ty - r.fy) = r.ty - r.fy := wrap_small (by omega) (by omega)
            have gw2 : IntKind.i64.wrap (r.ty - r.fy + 1) = r.ty - r.fy + 1 := wrap_small (by omega) (by omega)
            have gyy : max 0 (r.ty - r.fy + 1) = yearsM r := by unfold yearsM; rw [gmin, gmax]
            have gw3 : IntKind.i64.wrap (ME + 1 + mostS rs6 i + yearsM r) = ME + 1 + mostS rs6 i + yearsM r := wrap_small (by omega) (by omega)
            obtain ⟨YM, hYM⟩ : ∃ v, v = yearsM r := ⟨_, rfl⟩
            obtain ⟨MS, hMS⟩ : ∃ v, v = mostS rs6 i := ⟨_, rfl⟩
            rw [← hYM, ← hMS] at HST gw3
            rw [← hYM] at gyy
            rw [← hMS]
            clear hrc hr7 hym hmb hYM hMS
            go_wp2_with fail
            go_quiet (fail)
            go_wp2
            go_roundw
            case rel => exact ⟨i + 1, by omega, by go_num, by rw [HST.out, ← Int.add_assoc], Lib.hid (below_drewN hb2.out _), Lib.hid (below_drewN hbu2.out _)⟩
            case measure => simp [intOf]; omega
          · have hin : i = n6 := by omega
            have HST2 : Hid (mostE d es2 (j + 1) = ME + 1 + mostS rs6 i) := Lib.hid (by rw [HST.out, HMX.out, hin])
            clear hin
            go_wp2
            go_roundw
            case rel => exact ⟨j + 1, by omega, by go_num, by rw [HST2.out], hb2, hbu2⟩
            case measure => simp [intOf]; omega
    · have hjn : j = n2 := by omega
      have hle : (LL : Int) ≤ mostE d es2 j := by rw [hjn]; exact HMO.out
      have g4 : decide ((LL : Int) ≤ mostE d es2 j) = true := by simpa using hle
      obtain ⟨ME, hME⟩ : ∃ v, v = mostE d es2 j := ⟨_, rfl⟩
      rw [← hME] at g4 hmb
      rw [← hME]
      clear hjn hle hME
      have HBD : Hid (BoxB d w wo.drew) := Lib.hid hb.out.drew
      have HBUD : Hid (Below u2.heap.size u2 wo.drew) := Lib.hid hbu.out.drew
      go_wp2_with fail
      clear c0 c1 c2 z0 z1
      obtain ⟨c0, c1, c2⟩ := HDC.out _ HBD.out
      obtain ⟨z0, z1⟩ := HZC.out _ HBD.out
      go_region_held3 (fun w' => (w'.cell? ⟨w.heap.size, 0, none⟩ = some (.slice SA d.sn d.sc) ∧ w'.cell? ⟨w.heap.size, 1, none⟩ = some (.slice (some ⟨b, o, none⟩) d.zn d.zc) ∧ w'.cell? ⟨w.heap.size, 2, none⟩ = some (.slice d.lA d.ln d.lc)) ∧ (w'.cell? ⟨b, o + K.toNat * 2, none⟩ = some (.string zn0) ∧ w'.cell? ⟨b, o + K.toNat * 2 + 1, none⟩ = some (.slice (some ⟨b2, o2, none⟩) n2 cap2)))
        (refine ⟨⟨?_, ?_, ?_⟩, ?_, ?_⟩ <;> (first | with_reducible exact c0 | with_reducible exact c1 | with_reducible exact c2 | with_reducible exact z0 | with_reducible exact z1 | go_keep))
        (first
          | (go_at_call 13; refine (CZ.out _ HBD.out).mono ?_; rintro e w9 ⟨A', cap', rfl, hT', h9⟩; have HT9 := Lib.hid hT'; have H9 := Lib.hid h9; clear hT' h9 c0 c1 c2 z0 z1; obtain ⟨c0, c1, c2⟩ := HDC.out _ (HBD.out.trans (H9.out.mono (by have := HBD.out.size; simpa using this))); obtain ⟨z0, z1⟩ := HZC.out _ (HBD.out.trans (H9.out.mono (by have := HBD.out.size; simpa using this)))))
      have HB9 : Hid (BoxB d w w9) := Lib.hid (HBD.out.trans (H9.out.mono (by have := HBD.out.size; simpa using this)))
      have HBU9 : Hid (Below u2.heap.size u2 w9) := Lib.hid (HBUD.out.trans (H9.out.mono HBUD.out.size))
      clear c0 c1 c2 z0 z1
      go_wp2_with fail
      refine (B1.out _ HB9.out).mono ?_
      rintro e u5 ⟨rfl, h5⟩
      have HS := Lib.hid (ST.out A A' LL cap cap' u5 (HT2.out.next (HBU9.out.trans (h5.mono HBU9.out.size))) (HT9.out.next h5))
      have HB5 : Hid (BoxB d w u5) := Lib.hid (HB9.out.trans (h5.mono (by have := HB9.out.size; simpa using this)))
      clear h5
      go_wp2_with fail
      refine HS.out.mono ?_
      rintro e u6 ⟨rfl, h6⟩
      have hbw := (HN.out _ HB5.out).1.trans (h6.mono (HN.out _ HB5.out).1.size)
      clear h6
      go_wp2
      go_ret
      exact ⟨rfl, hbw⟩
theorem tableMost_walk (d : Dt) (nm : ByteArray) (w : World) (hD : DataAt w w.heap.size d) (hM : MaxAt w w.heap.size) :
    Calls Tryz.prog 5 #[d.val, .string nm] w fun e w' => e = .returned (.bool true) ∧ Below w.heap.size w w' := by
  by_cases hz : zoneEr d nm = 0
  · obtain ⟨_, z, hzq, _⟩ := zone_there hz
    exact tableMost_good d nm w hD hM hz z hzq
  · exact tableMost_bad d nm w hD hM hz
end Go.Proofs.YtlngalmdidaahaaGreatDoor
