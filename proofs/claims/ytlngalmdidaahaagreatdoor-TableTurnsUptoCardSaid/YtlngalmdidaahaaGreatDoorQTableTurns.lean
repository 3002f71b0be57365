/- The walk of TableTurns. -/
import Derived.Deep.RegionHeld3
import Derived.Deep.CutRange
import Derived.BigRegion
import Derived.BigQuiet
import Derived.Test.YtlngalmdidaahaaGreatDoorMTableSameRow0
import Derived.Test.YtlngalmdidaahaaGreatDoorMTableSameRow1
import Derived.Test.YtlngalmdidaahaaGreatDoorMTableSameRow2
import Derived.Test.YtlngalmdidaahaaGreatDoorMTableSameRow3
import Derived.Test.YtlngalmdidaahaaGreatDoorMTableSameRow4
import Derived.Test.YtlngalmdidaahaaGreatDoorMTableSameRow5
import Derived.Test.YtlngalmdidaahaaGreatDoorMTableSameRow6
import Derived.Test.YtlngalmdidaahaaGreatDoorMTableSameRow7
import Derived.Test.YtlngalmdidaahaaGreatDoorMTableSameRow8
import Derived.Test.YtlngalmdidaahaaGreatDoorMTableSameRow9
import Derived.Test.YtlngalmdidaahaaGreatDoorMTableSameRow10
import Derived.Test.YtlngalmdidaahaaGreatDoorMTableSameRow11
import Derived.Test.YtlngalmdidaahaaGreatDoorMTableSameRow12
import Derived.Test.YtlngalmdidaahaaGreatDoorMTableSameRow13
import Derived.Test.YtlngalmdidaahaaGreatDoorMTableSameRow14
import Derived.Test.YtlngalmdidaahaaGreatDoorMTableSameRow15
import Derived.Test.YtlngalmdidaahaaGreatDoorMTableSameRow16
import Derived.Test.YtlngalmdidaahaaGreatDoorMTableSameRow17
import Derived.Test.YtlngalmdidaahaaGreatDoorMTableSameRow18
import Derived.Test.YtlngalmdidaahaaGreatDoorMTableSameRow19
import Derived.Test.YtlngalmdidaahaaGreatDoorMTableSameRow20
import Derived.Test.YtlngalmdidaahaaGreatDoorMTableSameRow21
import Derived.Test.YtlngalmdidaahaaGreatDoorMTableSameRow22
import Derived.Test.YtlngalmdidaahaaGreatDoorMTableSameRow23
import Derived.Test.YtlngalmdidaahaaGreatDoorMTableSameRow24
import Derived.Test.YtlngalmdidaahaaGreatDoorMTableSameRow25
import Derived.Test.YtlngalmdidaahaaGreatDoorMTableSameRow26
import Derived.Test.YtlngalmdidaahaaGreatDoorMTableSameRow27
import Derived.Test.YtlngalmdidaahaaGreatDoorMTableSameRow28
import Derived.Test.YtlngalmdidaahaaGreatDoorMTableSameRow29
import Derived.Test.YtlngalmdidaahaaGreatDoorMTableSameRow30
import Derived.Test.YtlngalmdidaahaaGreatDoorMTableSameRow31
import Derived.Test.YtlngalmdidaahaaGreatDoorMTableSameRow32
import Derived.Test.YtlngalmdidaahaaGreatDoorMTableSameRow33
import Derived.Test.YtlngalmdidaahaaGreatDoorMTableSameRow34
import Derived.Test.YtlngalmdidaahaaGreatDoorMTableSameRow35
import Derived.Test.YtlngalmdidaahaaGreatDoorMTableSameRow36
import Derived.Test.YtlngalmdidaahaaGreatDoorMTableSameRow37
import Derived.Test.YtlngalmdidaahaaGreatDoorMTableSameRow38
import Derived.Test.YtlngalmdidaahaaGreatDoorMTableSameRow39
import Derived.Test.YtlngalmdidaahaaGreatDoorMTableSameRow40
import Derived.Test.YtlngalmdidaahaaGreatDoorMTableSameRow41
import Derived.Test.YtlngalmdidaahaaGreatDoorQTurnsP
import Derived.Test.YtlngalmdidaahaaGreatDoorQOffTrue
set_option linter.unusedSimpArgs false
set_option linter.unusedVariables false
set_option linter.unusedVariables false
namespace Go.Proofs.YtlngalmdidaahaaGreatDoor
open Go.RowKit Gno
set_option maxRecDepth 100000 in
set_option maxHeartbeats 4000000 in
theorem tableTurns_bad (d : Dt) (nm : ByteArray) (a1 a2 : Int) (w : World) (hD : DataAt w w.heap.size d) (hM : MaxAt w w.heap.size) (hz : zoneEr d nm ≠ 0) :
    Calls Tryz.prog 7 #[d.val, .string nm, .int .i64 a1, .int .i64 a2] w fun e w' => e = .returned (.bool true) ∧ Below w.heap.size w w' := by
  have HN := Lib.hid (fun W (hb : BoxB d w W) => box_next (d := d) (w := w) (W := W) hD hb)
  have CO := Lib.hid (fun W (hb : BoxB d w W) => compile_any d nm W (HN.out W hb).2.1 (hM.next (HN.out W hb).1))
  have B1 := Lib.hid (fun W (hb : BoxB d w W) => tableBegun_any W (hM.next (HN.out W hb).1))
  clear hD hM
  unfold Dt.val at *
  obtain ⟨LL, hLL⟩ : ∃ v, v = (tabN d nm).length := ⟨_, rfl⟩
  obtain ⟨EE, hEE⟩ : ∃ v, v = zoneEr d nm := ⟨_, rfl⟩
  rw [← hLL, ← hEE] at CO
  rw [← hEE] at hz
  have g1 : (EE != 0) = true := by simpa using hz
  clear hz hLL hEE
  go_enter Tryz.func7, Tryz.ntmps7
  go_wp2_with fail
  refine (CO.out _ (Below.refl _ _)).mono ?_
  rintro e u1 ⟨A, cap, rfl, _, h1⟩
  have HB1 : Hid (BoxB d w u1) := Lib.hid (h1.mono (by simp))
  clear h1
  go_wp2_with fail
  refine (B1.out _ HB1.out).mono ?_
  rintro e u3 ⟨rfl, h3⟩
  have hbw := (HN.out _ HB1.out).1.trans (h3.mono (HN.out _ HB1.out).1.size)
  clear h3
  go_wp2
  go_ret
  exact ⟨rfl, hbw⟩
set_option maxRecDepth 100000 in
set_option maxHeartbeats 8000000 in
theorem tableTurns_good (d : Dt) (nm : ByteArray) (a1 a2 : Int) (w : World) (h1 : (Lit.int .i64 a1).wf = true) (h2 : (Lit.int .i64 a2).wf = true) (hD : DataAt w w.heap.size d) (hM : MaxAt w w.heap.size) (hz : zoneEr d nm = 0) :
    Calls Tryz.prog 7 #[d.val, .string nm, .int .i64 a1, .int .i64 a2] w fun e w' => e = .returned (.bool true) ∧ Below w.heap.size w w' := by
  have HN := Lib.hid (fun W (hb : BoxB d w W) => box_next (d := d) (w := w) (W := W) hD hb)
  have CO := Lib.hid (fun W (hb : BoxB d w W) => compile_any d nm W (HN.out W hb).2.1 (hM.next (HN.out W hb).1))
  have B1 := Lib.hid (fun W (hb : BoxB d w W) => tableBegun_any W (hM.next (HN.out W hb).1))
  have HAT := Lib.hid (fun t W (hb : BoxB d w W) => at_any d nm t W (HN.out W hb).2.1 (hM.next (HN.out W hb).1))
  have hfew : (tabN d nm).length ≤ 964 := tabN_few hD
  have hfi := fineB_iff.1 (tab_fine hz)
  have hpos := hfi.pos
  have bd := chooseN_bd a1 (tabN d nm).length (by omega)
  have CH := Lib.hid (fun W => choose_any a1 (tabN d nm).length W h1 (by omega) (by omega))
  obtain ⟨y, ty⟩ := turn_at hz (k := (chooseN a1 (tabN d nm).length).toNat) (by omega)
  obtain ⟨L, hL⟩ : ∃ v, v = tabN d nm := ⟨_, rfl⟩
  rw [← hL] at CO hfew hfi hpos bd CH ty
  obtain ⟨LL, hLL⟩ : ∃ v, v = L.length := ⟨_, rfl⟩
  rw [← hLL] at CO hfew hpos bd CH ty
  obtain ⟨KI, hKI⟩ : ∃ v, v = chooseN a1 LL := ⟨_, rfl⟩
  rw [← hKI] at bd CH ty
  obtain ⟨k, hk⟩ : ∃ k : Nat, (k : Int) = KI := ⟨KI.toNat, by omega⟩
  subst hk
  rw [Int.toNat_natCast] at ty
  obtain ⟨ya, ylo, ylt, yhi, ysame, ynew⟩ := ty
  have HNEW := Lib.hid ynew
  obtain ⟨EN, hEN⟩ : ∃ v, v = nextA L k := ⟨_, rfl⟩
  rw [← hEN] at ylt yhi ysame
  have bd2 := chooseN_bd a2 (EN - y.a) (by omega)
  have CH2 : Hid (∀ W, Calls Tryz.prog 20 #[.int .i64 a2, .int .i64 (EN - y.a)] W fun e w' => e = .returned (.int .i64 (chooseN a2 (EN - y.a))) ∧ W = w') := Lib.hid (fun W => choose_any a2 (EN - y.a) W h2 (by omega) (by omega))
  have ATg : ∀ T, y.a ≤ T → T < EN → Hid (∀ W, BoxB d w W → Calls Tryz.prog 10 #[.agg #[.slice d.sA d.sn d.sc, .slice d.zA d.zn d.zc, .slice d.lA d.ln d.lc], .string nm, .int .i64 T] W fun e w' => e = .returned (.tuple #[.agg #[.int .i64 y.tt, .int .i64 y.sv, .string y.ab], .int .i64 0]) ∧ Below W.heap.size W w') := fun T q1 q2 => Lib.hid (fun W hb => by
    have h9 := ysame T q1 q2
    have := HAT.out T W hb
    rwa [h9.1, h9.2.1, h9.2.2.1, h9.2.2.2] at this)
  obtain ⟨CT, hCT⟩ : ∃ v, v = chooseN a2 (EN - y.a) := ⟨_, rfl⟩
  rw [← hCT] at bd2 CH2
  have AT1 := ATg y.a (by omega) (by omega)
  have AT2 := ATg (y.a + CT) (by omega) (by omega)
  have gw1 : IntKind.i64.wrap (EN - y.a) = EN - y.a := wrap_big (by omega) (by omega)
  have gw2 : IntKind.i64.wrap (y.a + CT) = y.a + CT := wrap_big (by omega) (by omega)
  have gw3 : IntKind.i64.wrap ((k : Int) + 1) = (k : Int) + 1 := wrap_big (by omega) (by omega)
  have gle : decide (EN ≤ y.a) = false := by simp; omega
  have HNX : Hid (∀ z, L[k + 1]? = some z → z.a = EN) := Lib.hid (fun z h => by rw [hEN]; unfold nextA; rw [h])
  have HNO : Hid (L[k + 1]? = none → EN = 1893456000) := Lib.hid (fun h => by rw [hEN]; unfold nextA; rw [h])
  have HF0 := Lib.hid hfi.first
  have HYA := Lib.hid ya
  have HLL := Lib.hid hLL
  have hkl : k < LL := by omega
  have gne : ((LL : Int) == 0) = false := by simp; omega
  have gkk : (k : Int) < (LL : Int) := by omega
  rw [hz] at CO
  clear ATg ysame ynew hfi hEN hCT hKI hLL hL hz hD hM ya bd2 bd
  unfold Dt.val at *
  go_enter Tryz.func7, Tryz.ntmps7
  go_wp2_with fail
  refine (CO.out _ (Below.refl _ _)).mono ?_
  rintro e u1 ⟨A, cap, rfl, hT, hh1⟩
  have hb1 : BoxB d w u1 := hh1.mono (by simp)
  obtain ⟨b3, o3, y0, hA, _, hy0, _, hc0⟩ := turns_get hT (i := 0) (by omega)
  subst hA
  have HT := Lib.hid hT
  have HTC : Hid (∀ j z, L[j]? = some z → ∀ W, Below u1.heap.size u1 W → TnAt W b3 (o3 + j * 4) z) := Lib.hid (fun j z hj W h => by
    have hjl := (List.getElem?_eq_some_iff.1 hj).1
    obtain ⟨b', o', z', hA', _, hz', _, hc'⟩ := turns_get HT.out (i := j) (by have := HLL.out; omega)
    rw [hj] at hz'
    injection hz' with hz'
    subst hz'
    injection hA' with hA'
    injection hA' with q1 q2 _
    subst q1
    subst q2
    exact hc' W h)
  have HYC : Hid (∀ W, Below u1.heap.size u1 W → TnAt W b3 (o3 + k * 4) y) := Lib.hid (fun W h => HTC.out k y HYA.out W h)
  have HALL : Hid (∀ W, Below u1.heap.size u1 W → BoxB d w W ∧ (W.cell? ⟨w.heap.size, 0, none⟩ = some (.slice d.sA d.sn d.sc) ∧ W.cell? ⟨w.heap.size, 1, none⟩ = some (.slice d.zA d.zn d.zc) ∧ W.cell? ⟨w.heap.size, 2, none⟩ = some (.slice d.lA d.ln d.lc)) ∧ W.cell? ⟨b3, o3 + k * 4, none⟩ = some (.int .i64 y.a)) := Lib.hid (fun W h => by
    have hb : BoxB d w W := hb1.trans (h.mono (by have := hb1.size; simpa using this))
    have h9 := HN.out W hb
    exact ⟨hb, h9.2.2, (HYC.out W h).1⟩)
  have HR1 : Hid (Below u1.heap.size u1 u1) := Lib.hid (Below.refl _ _)
  obtain ⟨l0, _⟩ := hc0 _ (Below.refl _ _)
  rw [show o3 + 0 * 4 = o3 by omega, HF0.out y0 hy0] at l0
  clear hT hh1 hb1 hy0 hc0 CO
  go_wp2_with fail
  refine (CH.out _).mono ?_
  rintro e wch ⟨rfl, rfl⟩
  clear l0
  obtain ⟨_, ⟨c0, c1, c2⟩, c3⟩ := HALL.out _ (Below.refl _ _)
  by_cases hk1 : k + 1 < LL
  · have gk : decide ((k : Int) + 1 < (LL : Int)) = true := by simp; omega
    have hq := List.getElem?_eq_getElem (l := L) (i := k + 1) (by have := HLL.out; omega)
    have m0 := (HTC.out _ _ hq _ (Below.refl _ _)).1
    rw [HNX.out _ hq] at m0
    clear hq
    go_upto_region 12 with fail
    go_cut [13, 14] from 60 to 70 (fun sa sb wx => ∃ P : Nat, sa = .pointer (some ⟨P, 0, none⟩) ∧ sb = .int .i64 0 ∧ Hid (Below u1.heap.size u1 wx) ∧ Hid (∀ W, Below wx.heap.size wx W → (W.cell? ⟨P, 0, none⟩ = some (.int .i64 y.tt) ∧ W.cell? ⟨P, 1, none⟩ = some (.int .i64 y.sv) ∧ W.cell? ⟨P, 2, none⟩ = some (.string y.ab))))
    case first =>
      have HD : Hid (Below u1.heap.size u1 u1.drew) := Lib.hid (Below.refl _ _).drew
      have HAA : Hid (Below u1.heap.size u1 (u1.alloc (.cells #[.int .i64 0, .int .i64 0, .string ⟨#[]⟩] 28)).drew) := Lib.hid (Below.alloc (Below.refl _ _) (Nat.le_refl _) _).drew
      have HBV : Hid (∀ W, Below u1.heap.size u1 W → BoxB d w W ∧ (W.cell? ⟨w.heap.size, 0, none⟩ = some (.slice d.sA d.sn d.sc) ∧ W.cell? ⟨w.heap.size, 1, none⟩ = some (.slice d.zA d.zn d.zc) ∧ W.cell? ⟨w.heap.size, 2, none⟩ = some (.slice d.lA d.ln d.lc)) ∧ W.cell? ⟨b3, o3 + k * 4, none⟩ = some (.int .i64 y.a)) := Lib.hid (fun W h => HALL.out W (HR1.out.trans (h.mono HR1.out.size)))
      obtain ⟨_, ⟨c0, c1, c2⟩, c3⟩ := HBV.out _ HD.out
      have n0 : u1.heap.size ≠ w.heap.size := World.new_ne u1 _ c0
      have n3 : u1.heap.size ≠ b3 := World.new_ne u1 _ c3
      go_region_held3 (fun w' => (w'.cell? ⟨w.heap.size, 0, none⟩ = some (.slice d.sA d.sn d.sc) ∧ w'.cell? ⟨w.heap.size, 1, none⟩ = some (.slice d.zA d.zn d.zc) ∧ w'.cell? ⟨w.heap.size, 2, none⟩ = some (.slice d.lA d.ln d.lc)) ∧ w'.cell? ⟨b3, o3 + k * 4, none⟩ = some (.int .i64 y.a))
        (refine ⟨⟨?_, ?_, ?_⟩, ?_⟩ <;> (first | with_reducible exact c0 | with_reducible exact c1 | with_reducible exact c2 | with_reducible exact c3 | with_reducible exact alloc_keep c0 | with_reducible exact alloc_keep c1 | with_reducible exact alloc_keep c2 | with_reducible exact alloc_keep c3 | with_reducible exact alloc_keep2 c0 | with_reducible exact alloc_keep2 c1 | with_reducible exact alloc_keep2 c2 | with_reducible exact alloc_keep2 c3 | (rw [far3 n0]; first | with_reducible exact c0 | with_reducible exact c1 | with_reducible exact c2) | (rw [far3 n3]; with_reducible exact c3) | (trace_state; fail)))
        (first
          | (go_at_call 10; refine (AT1.out _ (HBV.out _ HD.out).1).mono ?_; rintro e w9 ⟨rfl, h9⟩; have h9v := HD.out.trans (h9.mono HD.out.size); have H9 := Lib.hid h9; clear h9 c0 c1 c2 c3; obtain ⟨_, ⟨c0, c1, c2⟩, c3⟩ := HBV.out _ h9v; have m0 := World.new_ne w9 _ c0; have m3 := World.new_ne w9 _ c3)
          | (go_at_call 10; refine (AT1.out _ (HBV.out _ HAA.out).1).mono ?_; rintro e w9 ⟨rfl, h9⟩; have h9v := HAA.out.trans (h9.mono HAA.out.size); have k9 : w9.heap[u1.heap.size]? = some (.cells #[.int .i64 0, .int .i64 0, .string ⟨#[]⟩] 28) := (h9.block _ (by simp)).trans (World.alloc_heap_new u1 _); have H9 := Lib.hid h9; clear h9 c0 c1 c2 c3; obtain ⟨_, ⟨c0, c1, c2⟩, c3⟩ := HBV.out _ h9v; have p0 : w9.cell? ⟨u1.heap.size, 0, none⟩ = some (.int .i64 0) := cell_of k9 rfl; have p1 : w9.cell? ⟨u1.heap.size, 1, none⟩ = some (.int .i64 0) := cell_of k9 rfl; have p2 : w9.cell? ⟨u1.heap.size, 2, none⟩ = some (.string ⟨#[]⟩) := cell_of k9 rfl; have f0 : w9.frozen? ⟨u1.heap.size, 0, none⟩ = false := frozen_of k9; have f1 : w9.frozen? ⟨u1.heap.size, 1, none⟩ = false := frozen_of k9; have f2 : w9.frozen? ⟨u1.heap.size, 2, none⟩ = false := frozen_of k9))
      · have B3 : Below u1.heap.size u1 (w9.alloc (.cells #[.int .i64 y.tt, .int .i64 y.sv, .string y.ab] 28)) := Below.alloc h9v h9v.size _
        have P3 : (w9.alloc (.cells #[.int .i64 y.tt, .int .i64 y.sv, .string y.ab] 28)).heap[w9.heap.size]? = some (.cells #[.int .i64 y.tt, .int .i64 y.sv, .string y.ab] 28) := World.alloc_heap_new _ _
        go_wp2_with fail
        go_meet
        exact ⟨w9.heap.size, rfl, rfl, Lib.hid B3, Lib.hid (fun W h => by
          have k := (h.block w9.heap.size (by simp)).trans P3
          exact ⟨cell_of k rfl, cell_of k rfl, cell_of k rfl⟩)⟩
      · have B3 : Below u1.heap.size u1 (((w9.setCell ⟨u1.heap.size, 0, none⟩ (.int .i64 y.tt)).setCell ⟨u1.heap.size, 1, none⟩ (.int .i64 y.sv)).setCell ⟨u1.heap.size, 2, none⟩ (.string y.ab)) := ((h9v.setCell (Nat.le_refl _) _).setCell (Nat.le_refl _) _).setCell (Nat.le_refl _) _
        have P3 : (((w9.setCell ⟨u1.heap.size, 0, none⟩ (.int .i64 y.tt)).setCell ⟨u1.heap.size, 1, none⟩ (.int .i64 y.sv)).setCell ⟨u1.heap.size, 2, none⟩ (.string y.ab)).heap[u1.heap.size]? = some (.cells #[.int .i64 y.tt, .int .i64 y.sv, .string y.ab] 28) := (set_obj (set_obj (set_obj k9 _) _) _).trans rfl
        go_wp2_with fail
        go_meet
        exact ⟨u1.heap.size, rfl, rfl, Lib.hid B3, Lib.hid (fun W h => by
          have k := (h.block u1.heap.size (by have := (Array.getElem?_eq_some_iff.1 P3).1; exact this)).trans P3
          exact ⟨cell_of k rfl, cell_of k rfl, cell_of k rfl⟩)⟩
    case rest =>
      obtain ⟨PA, rfl, rfl, hbA, hcA⟩ := hcut
      obtain ⟨vA, hvA⟩ : ∃ v : World, v = wc := ⟨_, rfl⟩
      rw [← hvA] at hbA hcA
      rw [← hvA]
      clear hvA
      go_upto_region 13 with fail
      go_cut [15, 16] from 71 to 91 (fun sa sb wx => ∃ P : Nat, sa = .pointer (some ⟨P, 0, none⟩) ∧ sb = .int .i64 0 ∧ Hid (Below vA.heap.size vA wx) ∧ Hid (∀ W, Below wx.heap.size wx W → (W.cell? ⟨P, 0, none⟩ = some (.int .i64 y.tt) ∧ W.cell? ⟨P, 1, none⟩ = some (.int .i64 y.sv) ∧ W.cell? ⟨P, 2, none⟩ = some (.string y.ab))))
      case first =>
        have HD : Hid (Below vA.heap.size vA vA.drew) := Lib.hid (Below.refl _ _).drew
        have HAA : Hid (Below vA.heap.size vA (vA.alloc (.cells #[.int .i64 0, .int .i64 0, .string ⟨#[]⟩] 28)).drew) := Lib.hid (Below.alloc (Below.refl _ _) (Nat.le_refl _) _).drew
        have HBV : Hid (∀ W, Below vA.heap.size vA W → BoxB d w W ∧ (W.cell? ⟨w.heap.size, 0, none⟩ = some (.slice d.sA d.sn d.sc) ∧ W.cell? ⟨w.heap.size, 1, none⟩ = some (.slice d.zA d.zn d.zc) ∧ W.cell? ⟨w.heap.size, 2, none⟩ = some (.slice d.lA d.ln d.lc)) ∧ W.cell? ⟨b3, o3 + k * 4, none⟩ = some (.int .i64 y.a)) := Lib.hid (fun W h => HALL.out W (hbA.out.trans (h.mono hbA.out.size)))
        obtain ⟨_, ⟨c0, c1, c2⟩, c3⟩ := HBV.out _ HD.out
        have n0 : vA.heap.size ≠ w.heap.size := World.new_ne vA _ c0
        have n3 : vA.heap.size ≠ b3 := World.new_ne vA _ c3
        go_region_held3 (fun w' => (w'.cell? ⟨w.heap.size, 0, none⟩ = some (.slice d.sA d.sn d.sc) ∧ w'.cell? ⟨w.heap.size, 1, none⟩ = some (.slice d.zA d.zn d.zc) ∧ w'.cell? ⟨w.heap.size, 2, none⟩ = some (.slice d.lA d.ln d.lc)) ∧ w'.cell? ⟨b3, o3 + k * 4, none⟩ = some (.int .i64 y.a))
          (refine ⟨⟨?_, ?_, ?_⟩, ?_⟩ <;> (first | with_reducible exact c0 | with_reducible exact c1 | with_reducible exact c2 | with_reducible exact c3 | with_reducible exact alloc_keep c0 | with_reducible exact alloc_keep c1 | with_reducible exact alloc_keep c2 | with_reducible exact alloc_keep c3 | with_reducible exact alloc_keep2 c0 | with_reducible exact alloc_keep2 c1 | with_reducible exact alloc_keep2 c2 | with_reducible exact alloc_keep2 c3 | (rw [far3 n0]; first | with_reducible exact c0 | with_reducible exact c1 | with_reducible exact c2) | (rw [far3 n3]; with_reducible exact c3) | (trace_state; fail)))
          (first
            | (go_at_call 20; refine (CH2.out _).mono ?_; rintro e wch ⟨rfl, rfl⟩)
            | (go_at_call 10; refine (AT2.out _ (HBV.out _ HD.out).1).mono ?_; rintro e w9 ⟨rfl, h9⟩; have h9v := HD.out.trans (h9.mono HD.out.size); have H9 := Lib.hid h9; clear h9 c0 c1 c2 c3; obtain ⟨_, ⟨c0, c1, c2⟩, c3⟩ := HBV.out _ h9v; have m0 := World.new_ne w9 _ c0; have m3 := World.new_ne w9 _ c3)
            | (go_at_call 10; refine (AT2.out _ (HBV.out _ HAA.out).1).mono ?_; rintro e w9 ⟨rfl, h9⟩; have h9v := HAA.out.trans (h9.mono HAA.out.size); have k9 : w9.heap[vA.heap.size]? = some (.cells #[.int .i64 0, .int .i64 0, .string ⟨#[]⟩] 28) := (h9.block _ (by simp)).trans (World.alloc_heap_new vA _); have H9 := Lib.hid h9; clear h9 c0 c1 c2 c3; obtain ⟨_, ⟨c0, c1, c2⟩, c3⟩ := HBV.out _ h9v; have p0 : w9.cell? ⟨vA.heap.size, 0, none⟩ = some (.int .i64 0) := cell_of k9 rfl; have p1 : w9.cell? ⟨vA.heap.size, 1, none⟩ = some (.int .i64 0) := cell_of k9 rfl; have p2 : w9.cell? ⟨vA.heap.size, 2, none⟩ = some (.string ⟨#[]⟩) := cell_of k9 rfl; have f0 : w9.frozen? ⟨vA.heap.size, 0, none⟩ = false := frozen_of k9; have f1 : w9.frozen? ⟨vA.heap.size, 1, none⟩ = false := frozen_of k9; have f2 : w9.frozen? ⟨vA.heap.size, 2, none⟩ = false := frozen_of k9))
        · have B3 : Below vA.heap.size vA (w9.alloc (.cells #[.int .i64 y.tt, .int .i64 y.sv, .string y.ab] 28)) := Below.alloc h9v h9v.size _
          have P3 : (w9.alloc (.cells #[.int .i64 y.tt, .int .i64 y.sv, .string y.ab] 28)).heap[w9.heap.size]? = some (.cells #[.int .i64 y.tt, .int .i64 y.sv, .string y.ab] 28) := World.alloc_heap_new _ _
          go_wp2_with fail
          go_meet
          exact ⟨w9.heap.size, rfl, rfl, Lib.hid B3, Lib.hid (fun W h => by
            have k := (h.block w9.heap.size (by simp)).trans P3
            exact ⟨cell_of k rfl, cell_of k rfl, cell_of k rfl⟩)⟩
        · have B3 : Below vA.heap.size vA (((w9.setCell ⟨vA.heap.size, 0, none⟩ (.int .i64 y.tt)).setCell ⟨vA.heap.size, 1, none⟩ (.int .i64 y.sv)).setCell ⟨vA.heap.size, 2, none⟩ (.string y.ab)) := ((h9v.setCell (Nat.le_refl _) _).setCell (Nat.le_refl _) _).setCell (Nat.le_refl _) _
          have P3 : (((w9.setCell ⟨vA.heap.size, 0, none⟩ (.int .i64 y.tt)).setCell ⟨vA.heap.size, 1, none⟩ (.int .i64 y.sv)).setCell ⟨vA.heap.size, 2, none⟩ (.string y.ab)).heap[vA.heap.size]? = some (.cells #[.int .i64 y.tt, .int .i64 y.sv, .string y.ab] 28) := (set_obj (set_obj (set_obj k9 _) _) _).trans rfl
          go_wp2_with fail
          go_meet
          exact ⟨vA.heap.size, rfl, rfl, Lib.hid B3, Lib.hid (fun W h => by
            have k := (h.block vA.heap.size (by have := (Array.getElem?_eq_some_iff.1 P3).1; exact this)).trans P3
            exact ⟨cell_of k rfl, cell_of k rfl, cell_of k rfl⟩)⟩
        · have B3 : Below vA.heap.size vA (((w9.setCell ⟨vA.heap.size, 0, none⟩ (.int .i64 y.tt)).setCell ⟨vA.heap.size, 1, none⟩ (.int .i64 y.sv)).setCell ⟨vA.heap.size, 2, none⟩ (.string y.ab)) := ((h9v.setCell (Nat.le_refl _) _).setCell (Nat.le_refl _) _).setCell (Nat.le_refl _) _
          have P3 : (((w9.setCell ⟨vA.heap.size, 0, none⟩ (.int .i64 y.tt)).setCell ⟨vA.heap.size, 1, none⟩ (.int .i64 y.sv)).setCell ⟨vA.heap.size, 2, none⟩ (.string y.ab)).heap[vA.heap.size]? = some (.cells #[.int .i64 y.tt, .int .i64 y.sv, .string y.ab] 28) := (set_obj (set_obj (set_obj k9 _) _) _).trans rfl
          go_wp2_with fail
          go_meet
          exact ⟨vA.heap.size, rfl, rfl, Lib.hid B3, Lib.hid (fun W h => by
            have k := (h.block vA.heap.size (by have := (Array.getElem?_eq_some_iff.1 P3).1; exact this)).trans P3
            exact ⟨cell_of k rfl, cell_of k rfl, cell_of k rfl⟩)⟩
      case rest =>
        obtain ⟨PB, rfl, rfl, hbB, hcB⟩ := hcut
        obtain ⟨vB, hvB⟩ : ∃ v : World, v = wc := ⟨_, rfl⟩
        rw [← hvB] at hbB hcB
        rw [← hvB]
        clear hvB
        have HUB : Hid (Below u1.heap.size u1 vB) := Lib.hid (hbA.out.trans (hbB.out.mono hbA.out.size))
        obtain ⟨a0, a1', a2'⟩ := hcA.out _ hbB.out
        obtain ⟨b0, b1', b2'⟩ := hcB.out _ (Below.refl _ _)
        obtain ⟨_, y1, y2, y3⟩ := HYC.out _ HUB.out
        have e1 : (y.tt == y.tt) = true := by simp
        have e2 : (y.sv == y.sv) = true := by simp
        have e3 : (y.ab.toList == y.ab.toList) = true := by simp
        go_upto_region 14 with fail
        go_quiet (fail)
        clear a0 a1' a2' b0 b1' b2' y1 y2 y3
        obtain ⟨vC, hvC⟩ : ∃ v : World, v = vB.drewN nq := ⟨_, rfl⟩
        have HBC : Hid (Below vB.heap.size vB vC) := Lib.hid (by rw [hvC]; exact below_drewN (Below.refl _ _) _)
        rw [← hvC]
        clear hvC
        have HUC : Hid (Below u1.heap.size u1 vC) := Lib.hid (HUB.out.trans (HBC.out.mono HUB.out.size))
        by_cases hk0 : k = 0
        · have gk0 : ((k : Int) == 0) = true := by simp [hk0]
          go_wp2_with fail
          refine (B1.out _ (HALL.out _ HUC.out).1).mono ?_
          rintro e w10 ⟨rfl, h10⟩
          have hbw := (HN.out _ (HALL.out _ HUC.out).1).1.trans (h10.mono (HN.out _ (HALL.out _ HUC.out).1).1.size)
          clear h10
          go_wp2
          go_ret
          exact ⟨rfl, hbw⟩
        · have gk0 : ((k : Int) == 0) = false := by simp; omega
          obtain ⟨x, hx, hy1, hxo, hne⟩ := HNEW.out hk0
          obtain ⟨J, hJ⟩ : ∃ J : Nat, J = k - 1 := ⟨_, rfl⟩
          have AT3 : Hid (∀ W, BoxB d w W → Calls Tryz.prog 10 #[.agg #[.slice d.sA d.sn d.sc, .slice d.zA d.zn d.zc, .slice d.lA d.ln d.lc], .string nm, .int .i64 (y.a - 1)] W fun e w' => e = .returned (.tuple #[.agg #[.int .i64 x.tt, .int .i64 x.sv, .string x.ab], .int .i64 0]) ∧ Below W.heap.size W w') := Lib.hid (fun W hb => by
            have := HAT.out (y.a - 1) W hb
            rwa [hxo.1, hxo.2.1, hxo.2.2.1, hxo.2.2.2] at this)
          have HXC : Hid (∀ W, Below u1.heap.size u1 W → TnAt W b3 (o3 + J * 4) x) := Lib.hid (fun W h => by rw [hJ]; exact HTC.out (k - 1) x hx W h)
          have gwy : IntKind.i64.wrap (y.a - 1) = y.a - 1 := wrap_big (by omega) (by omega)
          have gwk : IntKind.i64.wrap ((k : Int) - 1) = (J : Int) := by rw [show (k : Int) - 1 = (J : Int) by omega]; exact wrap_big (by omega) (by omega)
          have gJ0 : (0 : Int) ≤ (J : Int) := by omega
          have gJ1 : (J : Int) < (LL : Int) := by omega
          have gJ2 : J < LL := by omega
          clear hx hxo hJ
          go_upto_region 18 with fail
          go_cut [17, 18] from 119 to 130 (fun sa sb wx => ∃ P : Nat, sa = .pointer (some ⟨P, 0, none⟩) ∧ sb = .int .i64 0 ∧ Hid (Below vC.heap.size vC wx) ∧ Hid (∀ W, Below wx.heap.size wx W → (W.cell? ⟨P, 0, none⟩ = some (.int .i64 x.tt) ∧ W.cell? ⟨P, 1, none⟩ = some (.int .i64 x.sv) ∧ W.cell? ⟨P, 2, none⟩ = some (.string x.ab))))
          case first =>
            have HD : Hid (Below vC.heap.size vC vC.drew) := Lib.hid (Below.refl _ _).drew
            have HAA : Hid (Below vC.heap.size vC (vC.alloc (.cells #[.int .i64 0, .int .i64 0, .string ⟨#[]⟩] 28)).drew) := Lib.hid (Below.alloc (Below.refl _ _) (Nat.le_refl _) _).drew
            have HBV : Hid (∀ W, Below vC.heap.size vC W → BoxB d w W ∧ (W.cell? ⟨w.heap.size, 0, none⟩ = some (.slice d.sA d.sn d.sc) ∧ W.cell? ⟨w.heap.size, 1, none⟩ = some (.slice d.zA d.zn d.zc) ∧ W.cell? ⟨w.heap.size, 2, none⟩ = some (.slice d.lA d.ln d.lc)) ∧ W.cell? ⟨b3, o3 + k * 4, none⟩ = some (.int .i64 y.a)) := Lib.hid (fun W h => HALL.out W (HUC.out.trans (h.mono HUC.out.size)))
            obtain ⟨_, ⟨c0, c1, c2⟩, c3⟩ := HBV.out _ HD.out
            have n0 : vC.heap.size ≠ w.heap.size := World.new_ne vC _ c0
            have n3 : vC.heap.size ≠ b3 := World.new_ne vC _ c3
            go_region_held3 (fun w' => (w'.cell? ⟨w.heap.size, 0, none⟩ = some (.slice d.sA d.sn d.sc) ∧ w'.cell? ⟨w.heap.size, 1, none⟩ = some (.slice d.zA d.zn d.zc) ∧ w'.cell? ⟨w.heap.size, 2, none⟩ = some (.slice d.lA d.ln d.lc)) ∧ w'.cell? ⟨b3, o3 + k * 4, none⟩ = some (.int .i64 y.a))
              (refine ⟨⟨?_, ?_, ?_⟩, ?_⟩ <;> (first | with_reducible exact c0 | with_reducible exact c1 | with_reducible exact c2 | with_reducible exact c3 | with_reducible exact alloc_keep c0 | with_reducible exact alloc_keep c1 | with_reducible exact alloc_keep c2 | with_reducible exact alloc_keep c3 | with_reducible exact alloc_keep2 c0 | with_reducible exact alloc_keep2 c1 | with_reducible exact alloc_keep2 c2 | with_reducible exact alloc_keep2 c3 | (rw [far3 n0]; first | with_reducible exact c0 | with_reducible exact c1 | with_reducible exact c2) | (rw [far3 n3]; with_reducible exact c3) | (trace_state; fail)))
              (first
                | (go_at_call 10; refine (AT3.out _ (HBV.out _ HD.out).1).mono ?_; rintro e w9 ⟨rfl, h9⟩; have h9v := HD.out.trans (h9.mono HD.out.size); have H9 := Lib.hid h9; clear h9 c0 c1 c2 c3; obtain ⟨_, ⟨c0, c1, c2⟩, c3⟩ := HBV.out _ h9v; have m0 := World.new_ne w9 _ c0; have m3 := World.new_ne w9 _ c3)
                | (go_at_call 10; refine (AT3.out _ (HBV.out _ HAA.out).1).mono ?_; rintro e w9 ⟨rfl, h9⟩; have h9v := HAA.out.trans (h9.mono HAA.out.size); have k9 : w9.heap[vC.heap.size]? = some (.cells #[.int .i64 0, .int .i64 0, .string ⟨#[]⟩] 28) := (h9.block _ (by simp)).trans (World.alloc_heap_new vC _); have H9 := Lib.hid h9; clear h9 c0 c1 c2 c3; obtain ⟨_, ⟨c0, c1, c2⟩, c3⟩ := HBV.out _ h9v; have p0 : w9.cell? ⟨vC.heap.size, 0, none⟩ = some (.int .i64 0) := cell_of k9 rfl; have p1 : w9.cell? ⟨vC.heap.size, 1, none⟩ = some (.int .i64 0) := cell_of k9 rfl; have p2 : w9.cell? ⟨vC.heap.size, 2, none⟩ = some (.string ⟨#[]⟩) := cell_of k9 rfl; have f0 : w9.frozen? ⟨vC.heap.size, 0, none⟩ = false := frozen_of k9; have f1 : w9.frozen? ⟨vC.heap.size, 1, none⟩ = false := frozen_of k9; have f2 : w9.frozen? ⟨vC.heap.size, 2, none⟩ = false := frozen_of k9))
            · have B3 : Below vC.heap.size vC (w9.alloc (.cells #[.int .i64 x.tt, .int .i64 x.sv, .string x.ab] 28)) := Below.alloc h9v h9v.size _
              have P3 : (w9.alloc (.cells #[.int .i64 x.tt, .int .i64 x.sv, .string x.ab] 28)).heap[w9.heap.size]? = some (.cells #[.int .i64 x.tt, .int .i64 x.sv, .string x.ab] 28) := World.alloc_heap_new _ _
              go_wp2_with fail
              go_meet
              exact ⟨w9.heap.size, rfl, rfl, Lib.hid B3, Lib.hid (fun W h => by
                have k := (h.block w9.heap.size (by simp)).trans P3
                exact ⟨cell_of k rfl, cell_of k rfl, cell_of k rfl⟩)⟩
            · have B3 : Below vC.heap.size vC (((w9.setCell ⟨vC.heap.size, 0, none⟩ (.int .i64 x.tt)).setCell ⟨vC.heap.size, 1, none⟩ (.int .i64 x.sv)).setCell ⟨vC.heap.size, 2, none⟩ (.string x.ab)) := ((h9v.setCell (Nat.le_refl _) _).setCell (Nat.le_refl _) _).setCell (Nat.le_refl _) _
              have P3 : (((w9.setCell ⟨vC.heap.size, 0, none⟩ (.int .i64 x.tt)).setCell ⟨vC.heap.size, 1, none⟩ (.int .i64 x.sv)).setCell ⟨vC.heap.size, 2, none⟩ (.string x.ab)).heap[vC.heap.size]? = some (.cells #[.int .i64 x.tt, .int .i64 x.sv, .string x.ab] 28) := (set_obj (set_obj (set_obj k9 _) _) _).trans rfl
              go_wp2_with fail
              go_meet
              exact ⟨vC.heap.size, rfl, rfl, Lib.hid B3, Lib.hid (fun W h => by
                have k := (h.block vC.heap.size (by have := (Array.getElem?_eq_some_iff.1 P3).1; exact this)).trans P3
                exact ⟨cell_of k rfl, cell_of k rfl, cell_of k rfl⟩)⟩
          case rest =>
            obtain ⟨PC, rfl, rfl, hbC, hcC⟩ := hcut
            obtain ⟨vD, hvD⟩ : ∃ v : World, v = wc := ⟨_, rfl⟩
            rw [← hvD] at hbC hcC
            rw [← hvD]
            clear hvD
            have HUD : Hid (Below u1.heap.size u1 vD) := Lib.hid (HUC.out.trans (hbC.out.mono HUC.out.size))
            have HBD : Hid (BoxB d w vD.drew) := Lib.hid (HALL.out _ HUD.out.drew).1
            have HCELL : Hid (∀ W, Below vD.heap.size vD W → (W.cell? ⟨PA, 0, none⟩ = some (.int .i64 y.tt) ∧ W.cell? ⟨PA, 1, none⟩ = some (.int .i64 y.sv) ∧ W.cell? ⟨PA, 2, none⟩ = some (.string y.ab)) ∧ (W.cell? ⟨PC, 0, none⟩ = some (.int .i64 x.tt) ∧ W.cell? ⟨PC, 1, none⟩ = some (.int .i64 x.sv) ∧ W.cell? ⟨PC, 2, none⟩ = some (.string x.ab)) ∧ TnAt W b3 (o3 + J * 4) x) := Lib.hid (fun W h => by
              have h1 : Below vC.heap.size vC W := hbC.out.trans (h.mono hbC.out.size)
              have h2 : Below vB.heap.size vB W := HBC.out.trans (h1.mono HBC.out.size)
              have h3 : Below vA.heap.size vA W := hbB.out.trans (h2.mono hbB.out.size)
              exact ⟨hcA.out W h3, hcC.out W h, HXC.out W (HUD.out.trans (h.mono HUD.out.size))⟩)
            have HDR : Hid (Below vD.heap.size vD vD.drew) := Lib.hid (Below.refl _ _).drew
            have s1 : (x.tt == x.tt) = true := by simp
            have s2 : (x.sv == x.sv) = true := by simp
            have s3 : (x.ab.toList == x.ab.toList) = true := by simp
            obtain ⟨⟨a0, a1', a2'⟩, ⟨b0, b1', b2'⟩, ⟨_, x1, x2, x3⟩⟩ := HCELL.out _ HDR.out
            clear e1 e2 e3
            cases e1 : (x.tt == y.tt)
            · go_upto_region 19 with fail
              go_region_held3 (fun w' => (w'.cell? ⟨PA, 0, none⟩ = some (.int .i64 y.tt) ∧ w'.cell? ⟨PA, 1, none⟩ = some (.int .i64 y.sv) ∧ w'.cell? ⟨PA, 2, none⟩ = some (.string y.ab)) ∧ (w'.cell? ⟨PC, 0, none⟩ = some (.int .i64 x.tt) ∧ w'.cell? ⟨PC, 1, none⟩ = some (.int .i64 x.sv) ∧ w'.cell? ⟨PC, 2, none⟩ = some (.string x.ab)) ∧ (w'.cell? ⟨b3, o3 + J * 4 + 1, none⟩ = some (.int .i64 x.tt) ∧ w'.cell? ⟨b3, o3 + J * 4 + 2, none⟩ = some (.int .i64 x.sv) ∧ w'.cell? ⟨b3, o3 + J * 4 + 3, none⟩ = some (.string x.ab)))
                (refine ⟨⟨?_, ?_, ?_⟩, ⟨?_, ?_, ?_⟩, ?_, ?_, ?_⟩ <;> (first | with_reducible exact a0 | with_reducible exact a1' | with_reducible exact a2' | with_reducible exact b0 | with_reducible exact b1' | with_reducible exact b2' | with_reducible exact x1 | with_reducible exact x2 | with_reducible exact x3 | (trace_state; fail)))
                (first
                  | (go_at_call 17; refine (B1.out _ HBD.out).mono ?_; rintro e w9 ⟨rfl, h9⟩; have h9v := HDR.out.trans (h9.mono HDR.out.size); have H9 := Lib.hid h9v; clear h9 a0 a1' a2' b0 b1' b2' x1 x2 x3; obtain ⟨⟨a0, a1', a2'⟩, ⟨b0, b1', b2'⟩, ⟨_, x1, x2, x3⟩⟩ := HCELL.out _ h9v))
              all_goals
                have hbw := (HN.out _ (HALL.out _ (HUD.out.trans (H9.out.mono HUD.out.size))).1).1
                go_wp2
                go_ret
                exact ⟨rfl, hbw⟩
            · cases e2 : (x.sv == y.sv)
              · go_upto_region 19 with fail
                go_region_held3 (fun w' => (w'.cell? ⟨PA, 0, none⟩ = some (.int .i64 y.tt) ∧ w'.cell? ⟨PA, 1, none⟩ = some (.int .i64 y.sv) ∧ w'.cell? ⟨PA, 2, none⟩ = some (.string y.ab)) ∧ (w'.cell? ⟨PC, 0, none⟩ = some (.int .i64 x.tt) ∧ w'.cell? ⟨PC, 1, none⟩ = some (.int .i64 x.sv) ∧ w'.cell? ⟨PC, 2, none⟩ = some (.string x.ab)) ∧ (w'.cell? ⟨b3, o3 + J * 4 + 1, none⟩ = some (.int .i64 x.tt) ∧ w'.cell? ⟨b3, o3 + J * 4 + 2, none⟩ = some (.int .i64 x.sv) ∧ w'.cell? ⟨b3, o3 + J * 4 + 3, none⟩ = some (.string x.ab)))
                  (refine ⟨⟨?_, ?_, ?_⟩, ⟨?_, ?_, ?_⟩, ?_, ?_, ?_⟩ <;> (first | with_reducible exact a0 | with_reducible exact a1' | with_reducible exact a2' | with_reducible exact b0 | with_reducible exact b1' | with_reducible exact b2' | with_reducible exact x1 | with_reducible exact x2 | with_reducible exact x3 | (trace_state; fail)))
                  (first
                    | (go_at_call 17; refine (B1.out _ HBD.out).mono ?_; rintro e w9 ⟨rfl, h9⟩; have h9v := HDR.out.trans (h9.mono HDR.out.size); have H9 := Lib.hid h9v; clear h9 a0 a1' a2' b0 b1' b2' x1 x2 x3; obtain ⟨⟨a0, a1', a2'⟩, ⟨b0, b1', b2'⟩, ⟨_, x1, x2, x3⟩⟩ := HCELL.out _ h9v))
                all_goals
                  have hbw := (HN.out _ (HALL.out _ (HUD.out.trans (H9.out.mono HUD.out.size))).1).1
                  go_wp2
                  go_ret
                  exact ⟨rfl, hbw⟩
              · cases e3 : (x.ab.toList == y.ab.toList)
                · go_upto_region 19 with fail
                  go_region_held3 (fun w' => (w'.cell? ⟨PA, 0, none⟩ = some (.int .i64 y.tt) ∧ w'.cell? ⟨PA, 1, none⟩ = some (.int .i64 y.sv) ∧ w'.cell? ⟨PA, 2, none⟩ = some (.string y.ab)) ∧ (w'.cell? ⟨PC, 0, none⟩ = some (.int .i64 x.tt) ∧ w'.cell? ⟨PC, 1, none⟩ = some (.int .i64 x.sv) ∧ w'.cell? ⟨PC, 2, none⟩ = some (.string x.ab)) ∧ (w'.cell? ⟨b3, o3 + J * 4 + 1, none⟩ = some (.int .i64 x.tt) ∧ w'.cell? ⟨b3, o3 + J * 4 + 2, none⟩ = some (.int .i64 x.sv) ∧ w'.cell? ⟨b3, o3 + J * 4 + 3, none⟩ = some (.string x.ab)))
                    (refine ⟨⟨?_, ?_, ?_⟩, ⟨?_, ?_, ?_⟩, ?_, ?_, ?_⟩ <;> (first | with_reducible exact a0 | with_reducible exact a1' | with_reducible exact a2' | with_reducible exact b0 | with_reducible exact b1' | with_reducible exact b2' | with_reducible exact x1 | with_reducible exact x2 | with_reducible exact x3 | (trace_state; fail)))
                    (first
                      | (go_at_call 17; refine (B1.out _ HBD.out).mono ?_; rintro e w9 ⟨rfl, h9⟩; have h9v := HDR.out.trans (h9.mono HDR.out.size); have H9 := Lib.hid h9v; clear h9 a0 a1' a2' b0 b1' b2' x1 x2 x3; obtain ⟨⟨a0, a1', a2'⟩, ⟨b0, b1', b2'⟩, ⟨_, x1, x2, x3⟩⟩ := HCELL.out _ h9v))
                  all_goals
                    have hbw := (HN.out _ (HALL.out _ (HUD.out.trans (H9.out.mono HUD.out.size))).1).1
                    go_wp2
                    go_ret
                    exact ⟨rfl, hbw⟩
                · exfalso
                  apply hne
                  exact ⟨by simpa using e1, by simpa using e2, (same_iff _ _).1 e3⟩
  · have gk : decide ((k : Int) + 1 < (LL : Int)) = false := by simp; omega
    have hen := HNO.out (List.getElem?_eq_none (by have := HLL.out; omega))
    subst hen
    go_upto_region 12 with fail
    go_cut [13, 14] from 60 to 70 (fun sa sb wx => ∃ P : Nat, sa = .pointer (some ⟨P, 0, none⟩) ∧ sb = .int .i64 0 ∧ Hid (Below u1.heap.size u1 wx) ∧ Hid (∀ W, Below wx.heap.size wx W → (W.cell? ⟨P, 0, none⟩ = some (.int .i64 y.tt) ∧ W.cell? ⟨P, 1, none⟩ = some (.int .i64 y.sv) ∧ W.cell? ⟨P, 2, none⟩ = some (.string y.ab))))
    case first =>
      have HD : Hid (Below u1.heap.size u1 u1.drew) := Lib.hid (Below.refl _ _).drew
      have HAA : Hid (Below u1.heap.size u1 (u1.alloc (.cells #[.int .i64 0, .int .i64 0, .string ⟨#[]⟩] 28)).drew) := Lib.hid (Below.alloc (Below.refl _ _) (Nat.le_refl _) _).drew
      have HBV : Hid (∀ W, Below u1.heap.size u1 W → BoxB d w W ∧ (W.cell? ⟨w.heap.size, 0, none⟩ = some (.slice d.sA d.sn d.sc) ∧ W.cell? ⟨w.heap.size, 1, none⟩ = some (.slice d.zA d.zn d.zc) ∧ W.cell? ⟨w.heap.size, 2, none⟩ = some (.slice d.lA d.ln d.lc)) ∧ W.cell? ⟨b3, o3 + k * 4, none⟩ = some (.int .i64 y.a)) := Lib.hid (fun W h => HALL.out W (HR1.out.trans (h.mono HR1.out.size)))
      obtain ⟨_, ⟨c0, c1, c2⟩, c3⟩ := HBV.out _ HD.out
      have n0 : u1.heap.size ≠ w.heap.size := World.new_ne u1 _ c0
      have n3 : u1.heap.size ≠ b3 := World.new_ne u1 _ c3
      go_region_held3 (fun w' => (w'.cell? ⟨w.heap.size, 0, none⟩ = some (.slice d.sA d.sn d.sc) ∧ w'.cell? ⟨w.heap.size, 1, none⟩ = some (.slice d.zA d.zn d.zc) ∧ w'.cell? ⟨w.heap.size, 2, none⟩ = some (.slice d.lA d.ln d.lc)) ∧ w'.cell? ⟨b3, o3 + k * 4, none⟩ = some (.int .i64 y.a))
        (refine ⟨⟨?_, ?_, ?_⟩, ?_⟩ <;> (first | with_reducible exact c0 | with_reducible exact c1 | with_reducible exact c2 | with_reducible exact c3 | with_reducible exact alloc_keep c0 | with_reducible exact alloc_keep c1 | with_reducible exact alloc_keep c2 | with_reducible exact alloc_keep c3 | with_reducible exact alloc_keep2 c0 | with_reducible exact alloc_keep2 c1 | with_reducible exact alloc_keep2 c2 | with_reducible exact alloc_keep2 c3 | (rw [far3 n0]; first | with_reducible exact c0 | with_reducible exact c1 | with_reducible exact c2) | (rw [far3 n3]; with_reducible exact c3) | (trace_state; fail)))
        (first
          | (go_at_call 10; refine (AT1.out _ (HBV.out _ HD.out).1).mono ?_; rintro e w9 ⟨rfl, h9⟩; have h9v := HD.out.trans (h9.mono HD.out.size); have H9 := Lib.hid h9; clear h9 c0 c1 c2 c3; obtain ⟨_, ⟨c0, c1, c2⟩, c3⟩ := HBV.out _ h9v; have m0 := World.new_ne w9 _ c0; have m3 := World.new_ne w9 _ c3)
          | (go_at_call 10; refine (AT1.out _ (HBV.out _ HAA.out).1).mono ?_; rintro e w9 ⟨rfl, h9⟩; have h9v := HAA.out.trans (h9.mono HAA.out.size); have k9 : w9.heap[u1.heap.size]? = some (.cells #[.int .i64 0, .int .i64 0, .string ⟨#[]⟩] 28) := (h9.block _ (by simp)).trans (World.alloc_heap_new u1 _); have H9 := Lib.hid h9; clear h9 c0 c1 c2 c3; obtain ⟨_, ⟨c0, c1, c2⟩, c3⟩ := HBV.out _ h9v; have p0 : w9.cell? ⟨u1.heap.size, 0, none⟩ = some (.int .i64 0) := cell_of k9 rfl; have p1 : w9.cell? ⟨u1.heap.size, 1, none⟩ = some (.int .i64 0) := cell_of k9 rfl; have p2 : w9.cell? ⟨u1.heap.size, 2, none⟩ = some (.string ⟨#[]⟩) := cell_of k9 rfl; have f0 : w9.frozen? ⟨u1.heap.size, 0, none⟩ = false := frozen_of k9; have f1 : w9.frozen? ⟨u1.heap.size, 1, none⟩ = false := frozen_of k9; have f2 : w9.frozen? ⟨u1.heap.size, 2, none⟩ = false := frozen_of k9))
      · have B3 : Below u1.heap.size u1 (w9.alloc (.cells #[.int .i64 y.tt, .int .i64 y.sv, .string y.ab] 28)) := Below.alloc h9v h9v.size _
        have P3 : (w9.alloc (.cells #[.int .i64 y.tt, .int .i64 y.sv, .string y.ab] 28)).heap[w9.heap.size]? = some (.cells #[.int .i64 y.tt, .int .i64 y.sv, .string y.ab] 28) := World.alloc_heap_new _ _
        go_wp2_with fail
        go_meet
        exact ⟨w9.heap.size, rfl, rfl, Lib.hid B3, Lib.hid (fun W h => by
          have k := (h.block w9.heap.size (by simp)).trans P3
          exact ⟨cell_of k rfl, cell_of k rfl, cell_of k rfl⟩)⟩
      · have B3 : Below u1.heap.size u1 (((w9.setCell ⟨u1.heap.size, 0, none⟩ (.int .i64 y.tt)).setCell ⟨u1.heap.size, 1, none⟩ (.int .i64 y.sv)).setCell ⟨u1.heap.size, 2, none⟩ (.string y.ab)) := ((h9v.setCell (Nat.le_refl _) _).setCell (Nat.le_refl _) _).setCell (Nat.le_refl _) _
        have P3 : (((w9.setCell ⟨u1.heap.size, 0, none⟩ (.int .i64 y.tt)).setCell ⟨u1.heap.size, 1, none⟩ (.int .i64 y.sv)).setCell ⟨u1.heap.size, 2, none⟩ (.string y.ab)).heap[u1.heap.size]? = some (.cells #[.int .i64 y.tt, .int .i64 y.sv, .string y.ab] 28) := (set_obj (set_obj (set_obj k9 _) _) _).trans rfl
        go_wp2_with fail
        go_meet
        exact ⟨u1.heap.size, rfl, rfl, Lib.hid B3, Lib.hid (fun W h => by
          have k := (h.block u1.heap.size (by have := (Array.getElem?_eq_some_iff.1 P3).1; exact this)).trans P3
          exact ⟨cell_of k rfl, cell_of k rfl, cell_of k rfl⟩)⟩
    case rest =>
      obtain ⟨PA, rfl, rfl, hbA, hcA⟩ := hcut
      obtain ⟨vA, hvA⟩ : ∃ v : World, v = wc := ⟨_, rfl⟩
      rw [← hvA] at hbA hcA
      rw [← hvA]
      clear hvA
      go_upto_region 13 with fail
      go_cut [15, 16] from 71 to 91 (fun sa sb wx => ∃ P : Nat, sa = .pointer (some ⟨P, 0, none⟩) ∧ sb = .int .i64 0 ∧ Hid (Below vA.heap.size vA wx) ∧ Hid (∀ W, Below wx.heap.size wx W → (W.cell? ⟨P, 0, none⟩ = some (.int .i64 y.tt) ∧ W.cell? ⟨P, 1, none⟩ = some (.int .i64 y.sv) ∧ W.cell? ⟨P, 2, none⟩ = some (.string y.ab))))
      case first =>
        have HD : Hid (Below vA.heap.size vA vA.drew) := Lib.hid (Below.refl _ _).drew
        have HAA : Hid (Below vA.heap.size vA (vA.alloc (.cells #[.int .i64 0, .int .i64 0, .string ⟨#[]⟩] 28)).drew) := Lib.hid (Below.alloc (Below.refl _ _) (Nat.le_refl _) _).drew
        have HBV : Hid (∀ W, Below vA.heap.size vA W → BoxB d w W ∧ (W.cell? ⟨w.heap.size, 0, none⟩ = some (.slice d.sA d.sn d.sc) ∧ W.cell? ⟨w.heap.size, 1, none⟩ = some (.slice d.zA d.zn d.zc) ∧ W.cell? ⟨w.heap.size, 2, none⟩ = some (.slice d.lA d.ln d.lc)) ∧ W.cell? ⟨b3, o3 + k * 4, none⟩ = some (.int .i64 y.a)) := Lib.hid (fun W h => HALL.out W (hbA.out.trans (h.mono hbA.out.size)))
        obtain ⟨_, ⟨c0, c1, c2⟩, c3⟩ := HBV.out _ HD.out
        have n0 : vA.heap.size ≠ w.heap.size := World.new_ne vA _ c0
        have n3 : vA.heap.size ≠ b3 := World.new_ne vA _ c3
        go_region_held3 (fun w' => (w'.cell? ⟨w.heap.size, 0, none⟩ = some (.slice d.sA d.sn d.sc) ∧ w'.cell? ⟨w.heap.size, 1, none⟩ = some (.slice d.zA d.zn d.zc) ∧ w'.cell? ⟨w.heap.size, 2, none⟩ = some (.slice d.lA d.ln d.lc)) ∧ w'.cell? ⟨b3, o3 + k * 4, none⟩ = some (.int .i64 y.a))
          (refine ⟨⟨?_, ?_, ?_⟩, ?_⟩ <;> (first | with_reducible exact c0 | with_reducible exact c1 | with_reducible exact c2 | with_reducible exact c3 | with_reducible exact alloc_keep c0 | with_reducible exact alloc_keep c1 | with_reducible exact alloc_keep c2 | with_reducible exact alloc_keep c3 | with_reducible exact alloc_keep2 c0 | with_reducible exact alloc_keep2 c1 | with_reducible exact alloc_keep2 c2 | with_reducible exact alloc_keep2 c3 | (rw [far3 n0]; first | with_reducible exact c0 | with_reducible exact c1 | with_reducible exact c2) | (rw [far3 n3]; with_reducible exact c3) | (trace_state; fail)))
          (first
            | (go_at_call 20; refine (CH2.out _).mono ?_; rintro e wch ⟨rfl, rfl⟩)
            | (go_at_call 10; refine (AT2.out _ (HBV.out _ HD.out).1).mono ?_; rintro e w9 ⟨rfl, h9⟩; have h9v := HD.out.trans (h9.mono HD.out.size); have H9 := Lib.hid h9; clear h9 c0 c1 c2 c3; obtain ⟨_, ⟨c0, c1, c2⟩, c3⟩ := HBV.out _ h9v; have m0 := World.new_ne w9 _ c0; have m3 := World.new_ne w9 _ c3)
            | (go_at_call 10; refine (AT2.out _ (HBV.out _ HAA.out).1).mono ?_; rintro e w9 ⟨rfl, h9⟩; have h9v := HAA.out.trans (h9.mono HAA.out.size); have k9 : w9.heap[vA.heap.size]? = some (.cells #[.int .i64 0, .int .i64 0, .string ⟨#[]⟩] 28) := (h9.block _ (by simp)).trans (World.alloc_heap_new vA _); have H9 := Lib.hid h9; clear h9 c0 c1 c2 c3; obtain ⟨_, ⟨c0, c1, c2⟩, c3⟩ := HBV.out _ h9v; have p0 : w9.cell? ⟨vA.heap.size, 0, none⟩ = some (.int .i64 0) := cell_of k9 rfl; have p1 : w9.cell? ⟨vA.heap.size, 1, none⟩ = some (.int .i64 0) := cell_of k9 rfl; have p2 : w9.cell? ⟨vA.heap.size, 2, none⟩ = some (.string ⟨#[]⟩) := cell_of k9 rfl; have f0 : w9.frozen? ⟨vA.heap.size, 0, none⟩ = false := frozen_of k9; have f1 : w9.frozen? ⟨vA.heap.size, 1, none⟩ = false := frozen_of k9; have f2 : w9.frozen? ⟨vA.heap.size, 2, none⟩ = false := frozen_of k9))
        · have B3 : Below vA.heap.size vA (w9.alloc (.cells #[.int .i64 y.tt, .int .i64 y.sv, .string y.ab] 28)) := Below.alloc h9v h9v.size _
          have P3 : (w9.alloc (.cells #[.int .i64 y.tt, .int .i64 y.sv, .string y.ab] 28)).heap[w9.heap.size]? = some (.cells #[.int .i64 y.tt, .int .i64 y.sv, .string y.ab] 28) := World.alloc_heap_new _ _
          go_wp2_with fail
          go_meet
          exact ⟨w9.heap.size, rfl, rfl, Lib.hid B3, Lib.hid (fun W h => by
            have k := (h.block w9.heap.size (by simp)).trans P3
            exact ⟨cell_of k rfl, cell_of k rfl, cell_of k rfl⟩)⟩
        · have B3 : Below vA.heap.size vA (((w9.setCell ⟨vA.heap.size, 0, none⟩ (.int .i64 y.tt)).setCell ⟨vA.heap.size, 1, none⟩ (.int .i64 y.sv)).setCell ⟨vA.heap.size, 2, none⟩ (.string y.ab)) := ((h9v.setCell (Nat.le_refl _) _).setCell (Nat.le_refl _) _).setCell (Nat.le_refl _) _
          have P3 : (((w9.setCell ⟨vA.heap.size, 0, none⟩ (.int .i64 y.tt)).setCell ⟨vA.heap.size, 1, none⟩ (.int .i64 y.sv)).setCell ⟨vA.heap.size, 2, none⟩ (.string y.ab)).heap[vA.heap.size]? = some (.cells #[.int .i64 y.tt, .int .i64 y.sv, .string y.ab] 28) := (set_obj (set_obj (set_obj k9 _) _) _).trans rfl
          go_wp2_with fail
          go_meet
          exact ⟨vA.heap.size, rfl, rfl, Lib.hid B3, Lib.hid (fun W h => by
            have k := (h.block vA.heap.size (by have := (Array.getElem?_eq_some_iff.1 P3).1; exact this)).trans P3
            exact ⟨cell_of k rfl, cell_of k rfl, cell_of k rfl⟩)⟩
        · have B3 : Below vA.heap.size vA (((w9.setCell ⟨vA.heap.size, 0, none⟩ (.int .i64 y.tt)).setCell ⟨vA.heap.size, 1, none⟩ (.int .i64 y.sv)).setCell ⟨vA.heap.size, 2, none⟩ (.string y.ab)) := ((h9v.setCell (Nat.le_refl _) _).setCell (Nat.le_refl _) _).setCell (Nat.le_refl _) _
          have P3 : (((w9.setCell ⟨vA.heap.size, 0, none⟩ (.int .i64 y.tt)).setCell ⟨vA.heap.size, 1, none⟩ (.int .i64 y.sv)).setCell ⟨vA.heap.size, 2, none⟩ (.string y.ab)).heap[vA.heap.size]? = some (.cells #[.int .i64 y.tt, .int .i64 y.sv, .string y.ab] 28) := (set_obj (set_obj (set_obj k9 _) _) _).trans rfl
          go_wp2_with fail
          go_meet
          exact ⟨vA.heap.size, rfl, rfl, Lib.hid B3, Lib.hid (fun W h => by
            have k := (h.block vA.heap.size (by have := (Array.getElem?_eq_some_iff.1 P3).1; exact this)).trans P3
            exact ⟨cell_of k rfl, cell_of k rfl, cell_of k rfl⟩)⟩
      case rest =>
        obtain ⟨PB, rfl, rfl, hbB, hcB⟩ := hcut
        obtain ⟨vB, hvB⟩ : ∃ v : World, v = wc := ⟨_, rfl⟩
        rw [← hvB] at hbB hcB
        rw [← hvB]
        clear hvB
        have HUB : Hid (Below u1.heap.size u1 vB) := Lib.hid (hbA.out.trans (hbB.out.mono hbA.out.size))
        obtain ⟨a0, a1', a2'⟩ := hcA.out _ hbB.out
        obtain ⟨b0, b1', b2'⟩ := hcB.out _ (Below.refl _ _)
        obtain ⟨_, y1, y2, y3⟩ := HYC.out _ HUB.out
        have e1 : (y.tt == y.tt) = true := by simp
        have e2 : (y.sv == y.sv) = true := by simp
        have e3 : (y.ab.toList == y.ab.toList) = true := by simp
        go_upto_region 14 with fail
        go_quiet (fail)
        clear a0 a1' a2' b0 b1' b2' y1 y2 y3
        obtain ⟨vC, hvC⟩ : ∃ v : World, v = vB.drewN nq := ⟨_, rfl⟩
        have HBC : Hid (Below vB.heap.size vB vC) := Lib.hid (by rw [hvC]; exact below_drewN (Below.refl _ _) _)
        rw [← hvC]
        clear hvC
        have HUC : Hid (Below u1.heap.size u1 vC) := Lib.hid (HUB.out.trans (HBC.out.mono HUB.out.size))
        by_cases hk0 : k = 0
        · have gk0 : ((k : Int) == 0) = true := by simp [hk0]
          go_wp2_with fail
          refine (B1.out _ (HALL.out _ HUC.out).1).mono ?_
          rintro e w10 ⟨rfl, h10⟩
          have hbw := (HN.out _ (HALL.out _ HUC.out).1).1.trans (h10.mono (HN.out _ (HALL.out _ HUC.out).1).1.size)
          clear h10
          go_wp2
          go_ret
          exact ⟨rfl, hbw⟩
        · have gk0 : ((k : Int) == 0) = false := by simp; omega
          obtain ⟨x, hx, hy1, hxo, hne⟩ := HNEW.out hk0
          obtain ⟨J, hJ⟩ : ∃ J : Nat, J = k - 1 := ⟨_, rfl⟩
          have AT3 : Hid (∀ W, BoxB d w W → Calls Tryz.prog 10 #[.agg #[.slice d.sA d.sn d.sc, .slice d.zA d.zn d.zc, .slice d.lA d.ln d.lc], .string nm, .int .i64 (y.a - 1)] W fun e w' => e = .returned (.tuple #[.agg #[.int .i64 x.tt, .int .i64 x.sv, .string x.ab], .int .i64 0]) ∧ Below W.heap.size W w') := Lib.hid (fun W hb => by
            have := HAT.out (y.a - 1) W hb
            rwa [hxo.1, hxo.2.1, hxo.2.2.1, hxo.2.2.2] at this)
          have HXC : Hid (∀ W, Below u1.heap.size u1 W → TnAt W b3 (o3 + J * 4) x) := Lib.hid (fun W h => by rw [hJ]; exact HTC.out (k - 1) x hx W h)
          have gwy : IntKind.i64.wrap (y.a - 1) = y.a - 1 := wrap_big (by omega) (by omega)
          have gwk : IntKind.i64.wrap ((k : Int) - 1) = (J : Int) := by rw [show (k : Int) - 1 = (J : Int) by omega]; exact wrap_big (by omega) (by omega)
          have gJ0 : (0 : Int) ≤ (J : Int) := by omega
          have gJ1 : (J : Int) < (LL : Int) := by omega
          have gJ2 : J < LL := by omega
          clear hx hxo hJ
          go_upto_region 18 with fail
          go_cut [17, 18] from 119 to 130 (fun sa sb wx => ∃ P : Nat, sa = .pointer (some ⟨P, 0, none⟩) ∧ sb = .int .i64 0 ∧ Hid (Below vC.heap.size vC wx) ∧ Hid (∀ W, Below wx.heap.size wx W → (W.cell? ⟨P, 0, none⟩ = some (.int .i64 x.tt) ∧ W.cell? ⟨P, 1, none⟩ = some (.int .i64 x.sv) ∧ W.cell? ⟨P, 2, none⟩ = some (.string x.ab))))
          case first =>
            have HD : Hid (Below vC.heap.size vC vC.drew) := Lib.hid (Below.refl _ _).drew
            have HAA : Hid (Below vC.heap.size vC (vC.alloc (.cells #[.int .i64 0, .int .i64 0, .string ⟨#[]⟩] 28)).drew) := Lib.hid (Below.alloc (Below.refl _ _) (Nat.le_refl _) _).drew
            have HBV : Hid (∀ W, Below vC.heap.size vC W → BoxB d w W ∧ (W.cell? ⟨w.heap.size, 0, none⟩ = some (.slice d.sA d.sn d.sc) ∧ W.cell? ⟨w.heap.size, 1, none⟩ = some (.slice d.zA d.zn d.zc) ∧ W.cell? ⟨w.heap.size, 2, none⟩ = some (.slice d.lA d.ln d.lc)) ∧ W.cell? ⟨b3, o3 + k * 4, none⟩ = some (.int .i64 y.a)) := Lib.hid (fun W h => HALL.out W (HUC.out.trans (h.mono HUC.out.size)))
            obtain ⟨_, ⟨c0, c1, c2⟩, c3⟩ := HBV.out _ HD.out
            have n0 : vC.heap.size ≠ w.heap.size := World.new_ne vC _ c0
            have n3 : vC.heap.size ≠ b3 := World.new_ne vC _ c3
            go_region_held3 (fun w' => (w'.cell? ⟨w.heap.size, 0, none⟩ = some (.slice d.sA d.sn d.sc) ∧ w'.cell? ⟨w.heap.size, 1, none⟩ = some (.slice d.zA d.zn d.zc) ∧ w'.cell? ⟨w.heap.size, 2, none⟩ = some (.slice d.lA d.ln d.lc)) ∧ w'.cell? ⟨b3, o3 + k * 4, none⟩ = some (.int .i64 y.a))
              (refine ⟨⟨?_, ?_, ?_⟩, ?_⟩ <;> (first | with_reducible exact c0 | with_reducible exact c1 | with_reducible exact c2 | with_reducible exact c3 | with_reducible exact alloc_keep c0 | with_reducible exact alloc_keep c1 | with_reducible exact alloc_keep c2 | with_reducible exact alloc_keep c3 | with_reducible exact alloc_keep2 c0 | with_reducible exact alloc_keep2 c1 | with_reducible exact alloc_keep2 c2 | with_reducible exact alloc_keep2 c3 | (rw [far3 n0]; first | with_reducible exact c0 | with_reducible exact c1 | with_reducible exact c2) | (rw [far3 n3]; with_reducible exact c3) | (trace_state; fail)))
              (first
                | (go_at_call 10; refine (AT3.out _ (HBV.out _ HD.out).1).mono ?_; rintro e w9 ⟨rfl, h9⟩; have h9v := HD.out.trans (h9.mono HD.out.size); have H9 := Lib.hid h9; clear h9 c0 c1 c2 c3; obtain ⟨_, ⟨c0, c1, c2⟩, c3⟩ := HBV.out _ h9v; have m0 := World.new_ne w9 _ c0; have m3 := World.new_ne w9 _ c3)
                | (go_at_call 10; refine (AT3.out _ (HBV.out _ HAA.out).1).mono ?_; rintro e w9 ⟨rfl, h9⟩; have h9v := HAA.out.trans (h9.mono HAA.out.size); have k9 : w9.heap[vC.heap.size]? = some (.cells #[.int .i64 0, .int .i64 0, .string ⟨#[]⟩] 28) := (h9.block _ (by simp)).trans (World.alloc_heap_new vC _); have H9 := Lib.hid h9; clear h9 c0 c1 c2 c3; obtain ⟨_, ⟨c0, c1, c2⟩, c3⟩ := HBV.out _ h9v; have p0 : w9.cell? ⟨vC.heap.size, 0, none⟩ = some (.int .i64 0) := cell_of k9 rfl; have p1 : w9.cell? ⟨vC.heap.size, 1, none⟩ = some (.int .i64 0) := cell_of k9 rfl; have p2 : w9.cell? ⟨vC.heap.size, 2, none⟩ = some (.string ⟨#[]⟩) := cell_of k9 rfl; have f0 : w9.frozen? ⟨vC.heap.size, 0, none⟩ = false := frozen_of k9; have f1 : w9.frozen? ⟨vC.heap.size, 1, none⟩ = false := frozen_of k9; have f2 : w9.frozen? ⟨vC.heap.size, 2, none⟩ = false := frozen_of k9))
            · have B3 : Below vC.heap.size vC (w9.alloc (.cells #[.int .i64 x.tt, .int .i64 x.sv, .string x.ab] 28)) := Below.alloc h9v h9v.size _
              have P3 : (w9.alloc (.cells #[.int .i64 x.tt, .int .i64 x.sv, .string x.ab] 28)).heap[w9.heap.size]? = some (.cells #[.int .i64 x.tt, .int .i64 x.sv, .string x.ab] 28) := World.alloc_heap_new _ _
              go_wp2_with fail
              go_meet
              exact ⟨w9.heap.size, rfl, rfl, Lib.hid B3, Lib.hid (fun W h => by
                have k := (h.block w9.heap.size (by simp)).trans P3
                exact ⟨cell_of k rfl, cell_of k rfl, cell_of k rfl⟩)⟩
            · have B3 : Below vC.heap.size vC (((w9.setCell ⟨vC.heap.size, 0, none⟩ (.int .i64 x.tt)).setCell ⟨vC.heap.size, 1, none⟩ (.int .i64 x.sv)).setCell ⟨vC.heap.size, 2, none⟩ (.string x.ab)) := ((h9v.setCell (Nat.le_refl _) _).setCell (Nat.le_refl _) _).setCell (Nat.le_refl _) _
              have P3 : (((w9.setCell ⟨vC.heap.size, 0, none⟩ (.int .i64 x.tt)).setCell ⟨vC.heap.size, 1, none⟩ (.int .i64 x.sv)).setCell ⟨vC.heap.size, 2, none⟩ (.string x.ab)).heap[vC.heap.size]? = some (.cells #[.int .i64 x.tt, .int .i64 x.sv, .string x.ab] 28) := (set_obj (set_obj (set_obj k9 _) _) _).trans rfl
              go_wp2_with fail
              go_meet
              exact ⟨vC.heap.size, rfl, rfl, Lib.hid B3, Lib.hid (fun W h => by
                have k := (h.block vC.heap.size (by have := (Array.getElem?_eq_some_iff.1 P3).1; exact this)).trans P3
                exact ⟨cell_of k rfl, cell_of k rfl, cell_of k rfl⟩)⟩
          case rest =>
            obtain ⟨PC, rfl, rfl, hbC, hcC⟩ := hcut
            obtain ⟨vD, hvD⟩ : ∃ v : World, v = wc := ⟨_, rfl⟩
            rw [← hvD] at hbC hcC
            rw [← hvD]
            clear hvD
            have HUD : Hid (Below u1.heap.size u1 vD) := Lib.hid (HUC.out.trans (hbC.out.mono HUC.out.size))
            have HBD : Hid (BoxB d w vD.drew) := Lib.hid (HALL.out _ HUD.out.drew).1
            have HCELL : Hid (∀ W, Below vD.heap.size vD W → (W.cell? ⟨PA, 0, none⟩ = some (.int .i64 y.tt) ∧ W.cell? ⟨PA, 1, none⟩ = some (.int .i64 y.sv) ∧ W.cell? ⟨PA, 2, none⟩ = some (.string y.ab)) ∧ (W.cell? ⟨PC, 0, none⟩ = some (.int .i64 x.tt) ∧ W.cell? ⟨PC, 1, none⟩ = some (.int .i64 x.sv) ∧ W.cell? ⟨PC, 2, none⟩ = some (.string x.ab)) ∧ TnAt W b3 (o3 + J * 4) x) := Lib.hid (fun W h => by
              have h1 : Below vC.heap.size vC W := hbC.out.trans (h.mono hbC.out.size)
              have h2 : Below vB.heap.size vB W := HBC.out.trans (h1.mono HBC.out.size)
              have h3 : Below vA.heap.size vA W := hbB.out.trans (h2.mono hbB.out.size)
              exact ⟨hcA.out W h3, hcC.out W h, HXC.out W (HUD.out.trans (h.mono HUD.out.size))⟩)
            have HDR : Hid (Below vD.heap.size vD vD.drew) := Lib.hid (Below.refl _ _).drew
            have s1 : (x.tt == x.tt) = true := by simp
            have s2 : (x.sv == x.sv) = true := by simp
            have s3 : (x.ab.toList == x.ab.toList) = true := by simp
            obtain ⟨⟨a0, a1', a2'⟩, ⟨b0, b1', b2'⟩, ⟨_, x1, x2, x3⟩⟩ := HCELL.out _ HDR.out
            clear e1 e2 e3
            cases e1 : (x.tt == y.tt)
            · go_upto_region 19 with fail
              go_region_held3 (fun w' => (w'.cell? ⟨PA, 0, none⟩ = some (.int .i64 y.tt) ∧ w'.cell? ⟨PA, 1, none⟩ = some (.int .i64 y.sv) ∧ w'.cell? ⟨PA, 2, none⟩ = some (.string y.ab)) ∧ (w'.cell? ⟨PC, 0, none⟩ = some (.int .i64 x.tt) ∧ w'.cell? ⟨PC, 1, none⟩ = some (.int .i64 x.sv) ∧ w'.cell? ⟨PC, 2, none⟩ = some (.string x.ab)) ∧ (w'.cell? ⟨b3, o3 + J * 4 + 1, none⟩ = some (.int .i64 x.tt) ∧ w'.cell? ⟨b3, o3 + J * 4 + 2, none⟩ = some (.int .i64 x.sv) ∧ w'.cell? ⟨b3, o3 + J * 4 + 3, none⟩ = some (.string x.ab)))
                (refine ⟨⟨?_, ?_, ?_⟩, ⟨?_, ?_, ?_⟩, ?_, ?_, ?_⟩ <;> (first | with_reducible exact a0 | with_reducible exact a1' | with_reducible exact a2' | with_reducible exact b0 | with_reducible exact b1' | with_reducible exact b2' | with_reducible exact x1 | with_reducible exact x2 | with_reducible exact x3 | (trace_state; fail)))
                (first
                  | (go_at_call 17; refine (B1.out _ HBD.out).mono ?_; rintro e w9 ⟨rfl, h9⟩; have h9v := HDR.out.trans (h9.mono HDR.out.size); have H9 := Lib.hid h9v; clear h9 a0 a1' a2' b0 b1' b2' x1 x2 x3; obtain ⟨⟨a0, a1', a2'⟩, ⟨b0, b1', b2'⟩, ⟨_, x1, x2, x3⟩⟩ := HCELL.out _ h9v))
              all_goals
                have hbw := (HN.out _ (HALL.out _ (HUD.out.trans (H9.out.mono HUD.out.size))).1).1
                go_wp2
                go_ret
                exact ⟨rfl, hbw⟩
            · cases e2 : (x.sv == y.sv)
              · go_upto_region 19 with fail
                go_region_held3 (fun w' => (w'.cell? ⟨PA, 0, none⟩ = some (.int .i64 y.tt) ∧ w'.cell? ⟨PA, 1, none⟩ = some (.int .i64 y.sv) ∧ w'.cell? ⟨PA, 2, none⟩ = some (.string y.ab)) ∧ (w'.cell? ⟨PC, 0, none⟩ = some (.int .i64 x.tt) ∧ w'.cell? ⟨PC, 1, none⟩ = some (.int .i64 x.sv) ∧ w'.cell? ⟨PC, 2, none⟩ = some (.string x.ab)) ∧ (w'.cell? ⟨b3, o3 + J * 4 + 1, none⟩ = some (.int .i64 x.tt) ∧ w'.cell? ⟨b3, o3 + J * 4 + 2, none⟩ = some (.int .i64 x.sv) ∧ w'.cell? ⟨b3, o3 + J * 4 + 3, none⟩ = some (.string x.ab)))
                  (refine ⟨⟨?_, ?_, ?_⟩, ⟨?_, ?_, ?_⟩, ?_, ?_, ?_⟩ <;> (first | with_reducible exact a0 | with_reducible exact a1' | with_reducible exact a2' | with_reducible exact b0 | with_reducible exact b1' | with_reducible exact b2' | with_reducible exact x1 | with_reducible exact x2 | with_reducible exact x3 | (trace_state; fail)))
                  (first
                    | (go_at_call 17; refine (B1.out _ HBD.out).mono ?_; rintro e w9 ⟨rfl, h9⟩; have h9v := HDR.out.trans (h9.mono HDR.out.size); have H9 := Lib.hid h9v; clear h9 a0 a1' a2' b0 b1' b2' x1 x2 x3; obtain ⟨⟨a0, a1', a2'⟩, ⟨b0, b1', b2'⟩, ⟨_, x1, x2, x3⟩⟩ := HCELL.out _ h9v))
                all_goals
                  have hbw := (HN.out _ (HALL.out _ (HUD.out.trans (H9.out.mono HUD.out.size))).1).1
                  go_wp2
                  go_ret
                  exact ⟨rfl, hbw⟩
              · cases e3 : (x.ab.toList == y.ab.toList)
                · go_upto_region 19 with fail
                  go_region_held3 (fun w' => (w'.cell? ⟨PA, 0, none⟩ = some (.int .i64 y.tt) ∧ w'.cell? ⟨PA, 1, none⟩ = some (.int .i64 y.sv) ∧ w'.cell? ⟨PA, 2, none⟩ = some (.string y.ab)) ∧ (w'.cell? ⟨PC, 0, none⟩ = some (.int .i64 x.tt) ∧ w'.cell? ⟨PC, 1, none⟩ = some (.int .i64 x.sv) ∧ w'.cell? ⟨PC, 2, none⟩ = some (.string x.ab)) ∧ (w'.cell? ⟨b3, o3 + J * 4 + 1, none⟩ = some (.int .i64 x.tt) ∧ w'.cell? ⟨b3, o3 + J * 4 + 2, none⟩ = some (.int .i64 x.sv) ∧ w'.cell? ⟨b3, o3 + J * 4 + 3, none⟩ = some (.string x.ab)))
                    (refine ⟨⟨?_, ?_, ?_⟩, ⟨?_, ?_, ?_⟩, ?_, ?_, ?_⟩ <;> (first | with_reducible exact a0 | with_reducible exact a1' | with_reducible exact a2' | with_reducible exact b0 | with_reducible exact b1' | with_reducible exact b2' | with_reducible exact x1 | with_reducible exact x2 | with_reducible exact x3 | (trace_state; fail)))
                    (first
                      | (go_at_call 17; refine (B1.out _ HBD.out).mono ?_; rintro e w9 ⟨rfl, h9⟩; have h9v := HDR.out.trans (h9.mono HDR.out.size); have H9 := Lib.hid h9v; clear h9 a0 a1' a2' b0 b1' b2' x1 x2 x3; obtain ⟨⟨a0, a1', a2'⟩, ⟨b0, b1', b2'⟩, ⟨_, x1, x2, x3⟩⟩ := HCELL.out _ h9v))
                  all_goals
                    have hbw := (HN.out _ (HALL.out _ (HUD.out.trans (H9.out.mono HUD.out.size))).1).1
                    go_wp2
                    go_ret
                    exact ⟨rfl, hbw⟩
                · exfalso
                  apply hne
                  exact ⟨by simpa using e1, by simpa using e2, (same_iff _ _).1 e3⟩
theorem tableTurns_walk (d : Dt) (nm : ByteArray) (a1 a2 : Int) (w : World) (h1 : (Lit.int .i64 a1).wf = true) (h2 : (Lit.int .i64 a2).wf = true) (hD : DataAt w w.heap.size d) (hM : MaxAt w w.heap.size) :
    Calls Tryz.prog 7 #[d.val, .string nm, .int .i64 a1, .int .i64 a2] w fun e w' => e = .returned (.bool true) ∧ Below w.heap.size w w' := by
  by_cases hz : zoneEr d nm = 0
  · exact tableTurns_good d nm a1 a2 w h1 h2 hD hM hz
  · exact tableTurns_bad d nm a1 a2 w hD hM hz
end Go.Proofs.YtlngalmdidaahaaGreatDoor
