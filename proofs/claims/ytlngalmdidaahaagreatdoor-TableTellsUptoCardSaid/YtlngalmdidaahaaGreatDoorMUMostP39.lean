/- The reference's OffOf, and the walk of OffTells. -/
import Derived.Test.YtlngalmdidaahaaGreatDoorMUMostP38
import Derived.Test.YtlngalmdidaahaaGreatDoorMUMostP37
import Derived.Test.YtlngalmdidaahaaGreatDoorMUMostP34
import Derived.Test.YtlngalmdidaahaaGreatDoorMUMostP33
set_option linter.unusedSimpArgs false
set_option linter.unusedVariables false
/-! The reference's OffOf, and the walk of OffTells. -/
section
set_option linter.unusedVariables false
set_option linter.unusedSimpArgs false
namespace Go.Proofs.YtlngalmdidaahaaGreatDoor
open Go.RowKit Gno
set_option maxRecDepth 100000 in
set_option maxHeartbeats 4000000 in
theorem offOf_any (d : Dt) (nm : ByteArray) (t : Int) (w : World) (hD : DataAt w w.heap.size d) (hM : MaxAt w w.heap.size) :
    Calls Tryz.prog 11 #[d.val, .string nm, .int .i64 t] w fun e w' => e = .returned (.tuple #[.agg #[.int .i64 (oaTo d nm t), .int .i64 (oaSv d nm t), .string (oaAb d nm t)], .int .i64 (oaE d nm t)]) ∧ Below w.heap.size w w' := by
  have HN := Lib.hid (fun W hb => at_next (d := d) (w := w) (W := W) hD hM hb)
  have HZ : Hid (∀ W, Below (w.heap.size + 2) ((w.alloc (.cells #[.slice d.sA d.sn d.sc, .slice d.zA d.zn d.zc, .slice d.lA d.ln d.lc] 26)).alloc (.cells #[.int .i64 0, .int .i64 0, .string ⟨#[]⟩] 28)) W → Calls Tryz.prog 29 #[.agg #[.slice d.sA d.sn d.sc, .slice d.zA d.zn d.zc, .slice d.lA d.ln d.lc], .string nm] W fun e w' => e = .returned (.tuple #[.int .i64 (zoneK d nm), .int .i64 (zoneEr d nm)]) ∧ Below (w.heap.size + 2) ((w.alloc (.cells #[.slice d.sA d.sn d.sc, .slice d.zA d.zn d.zc, .slice d.lA d.ln d.lc] 26)).alloc (.cells #[.int .i64 0, .int .i64 0, .string ⟨#[]⟩] 28)) w') := Lib.hid (fun W h =>
    (zoneOf_any d nm W (HN.out W h).2.1).mono fun _ _ h2 => ⟨h2.1, h.trans (h2.2.mono (by have := h.size; simp at this ⊢ <;> omega))⟩)
  have hbb := Below.refl (w.heap.size + 2) ((w.alloc (.cells #[.slice d.sA d.sn d.sc, .slice d.zA d.zn d.zc, .slice d.lA d.ln d.lc] 26)).alloc (.cells #[.int .i64 0, .int .i64 0, .string ⟨#[]⟩] 28))
  unfold Dt.val
  by_cases he : zoneEr d nm = 0
  · by_cases ht : t < 0 ∨ 1893456000 ≤ t
    · have hE : oaE d nm t = 3 := by unfold oaE; rw [if_neg (by simp [he]), if_pos ht]
      have HO := Lib.hid (at_bad hE (by decide))
      rw [hE]
      obtain ⟨KK, hK⟩ : ∃ v, v = zoneK d nm := ⟨_, rfl⟩
      rw [he, ← hK] at HZ
      clear he hE hK hD hM
      have IT : Hid (∀ w, Calls Tryz.prog 30 #[.int .i64 t] w fun e w' => e = .returned (.bool false) ∧ w = w') := Lib.hid (fun w => by
        have := isTime_any t w
        rwa [show timeOk t = false by unfold timeOk; exact (withinB_no _ _ _).2 (by omega)] at this)
      clear ht
      go_enter Tryz.func11, Tryz.ntmps11
      go_wp2_with fail
      refine (HZ.out _ hbb).mono ?_
      rintro e w3 ⟨rfl, h3⟩
      go_wp2_with fail
      refine (IT.out _).mono ?_
      rintro e w4 ⟨rfl, rfl⟩
      obtain ⟨hbw, _, _, _, ⟨r0, r1, r2, f0, f1, f2⟩, k2⟩ := HN.out _ h3
      have K2 := Lib.hid k2
      clear k2
      go_wp2
      refine bodyPost_ret (results_cell_row_tmp rfl _ _ (w.heap.size + 1) 28 _ (0, 0) _ rfl (set_obj (set_obj (set_obj K2.out _) _) _) Tryz.underlying28 rfl (by kernel_rfl)) rfl ⟨?_, ((hbw.setCell (by simp) _).setCell (by simp) _).setCell (by simp) _⟩
      exact ret_at HO.out.1.symm HO.out.2.1.symm HO.out.2.2.symm rfl
    · have hE : oaE d nm t = 0 := by unfold oaE; rw [if_neg (by simp [he]), if_neg ht]
      have hd0 : dataE d = 0 := by
        unfold zoneEr at he
        split at he
        · rename_i q; exact absurd he q
        · rename_i q; exact Classical.not_not.1 q
      have hle : ¬ leadN d nm < 0 := by
        intro q
        have := (zone_none (nm := nm) hd0 q).2
        rw [he] at this; cases this
      have hzk := (zone_is (nm := nm) hd0 hle).1
      have hlr := (leadT_range d (d.ls.length + 1) nm).2
      have hlr : leadN d nm < d.zs.length := hlr
      have hzk0 : 0 ≤ zoneK d nm := by omega
      have hzq := List.getElem?_eq_getElem (l := d.zs) (i := (zoneK d nm).toNat) (by omega)
      have hr := rightE_of hd0
      have HO := Lib.hid (at_good hE hzq)
      rw [hE]
      have HF : Hid (∀ W, Below (w.heap.size + 2) ((w.alloc (.cells #[.slice d.sA d.sn d.sc, .slice d.zA d.zn d.zc, .slice d.lA d.ln d.lc] 26)).alloc (.cells #[.int .i64 0, .int .i64 0, .string ⟨#[]⟩] 28)) W → Calls Tryz.prog 31 #[.agg #[.slice d.sA d.sn d.sc, .slice d.zA d.zn d.zc, .slice d.lA d.ln d.lc], .int .i64 (zoneK d nm), .int .i64 t] W fun e w' => e = .returned (.agg #[.int .i64 (oaTo d nm t), .int .i64 (oaSv d nm t), .string (oaAb d nm t)]) ∧ Below (w.heap.size + 2) ((w.alloc (.cells #[.slice d.sA d.sn d.sc, .slice d.zA d.zn d.zc, .slice d.lA d.ln d.lc] 26)).alloc (.cells #[.int .i64 0, .int .i64 0, .string ⟨#[]⟩] 28)) w') := Lib.hid (fun W h => by
        have h2 := holdsRef_any d (zoneK d nm) t _ W (HN.out W h).2.1 (HN.out W h).2.2.1 hr hzq hzk0 (by omega)
        rw [← HO.out.1, ← HO.out.2.1, ← HO.out.2.2] at h2
        exact h2.mono fun _ _ h3 => ⟨h3.1, h.trans (h3.2.mono (by have := h.size; simp at this ⊢ <;> omega))⟩)
      obtain ⟨KK, hK⟩ : ∃ v, v = zoneK d nm := ⟨_, rfl⟩
      obtain ⟨TT, hTT⟩ : ∃ v, v = oaTo d nm t := ⟨_, rfl⟩
      obtain ⟨SS, hSS⟩ : ∃ v, v = oaSv d nm t := ⟨_, rfl⟩
      obtain ⟨AB, hAB⟩ : ∃ v, v = oaAb d nm t := ⟨_, rfl⟩
      rw [he, ← hK] at HZ
      rw [← hK, ← hTT, ← hSS, ← hAB] at HF
      rw [← hTT, ← hSS, ← hAB]
      have IT : Hid (∀ w, Calls Tryz.prog 30 #[.int .i64 t] w fun e w' => e = .returned (.bool true) ∧ w = w') := Lib.hid (fun w => by
        have := isTime_any t w
        rwa [show timeOk t = true by unfold timeOk; exact (withinB_iff _ _ _).2 (by omega)] at this)
      clear he hE hK hTT hSS hAB hD hM hd0 hle hzk hlr hzk0 hzq hr HO ht
      go_enter Tryz.func11, Tryz.ntmps11
      go_wp2_with fail
      refine (HZ.out _ hbb).mono ?_
      rintro e w3 ⟨rfl, h3⟩
      go_wp2_with fail
      refine (IT.out _).mono ?_
      rintro e w5 ⟨rfl, rfl⟩
      obtain ⟨_, _, _, ⟨c0, c1, c2⟩, _⟩ := HN.out _ h3
      go_wp2_with fail
      refine (HF.out _ h3).mono ?_
      rintro e w4 ⟨rfl, h4⟩
      clear c0 c1 c2
      obtain ⟨hbw, _, _, _, ⟨r0, r1, r2, f0, f1, f2⟩, k2⟩ := HN.out _ h4
      have K2 := Lib.hid k2
      clear k2
      go_wp2
      refine bodyPost_ret (results_cell_row_tmp rfl _ _ (w.heap.size + 1) 28 _ (0, 0) _ rfl (set_obj (set_obj (set_obj K2.out _) _) _) Tryz.underlying28 rfl (by kernel_rfl)) rfl ⟨rfl, ((hbw.setCell (by simp) _).setCell (by simp) _).setCell (by simp) _⟩
  · have hE : oaE d nm t = zoneEr d nm := by unfold oaE; rw [if_pos he]
    have HO := Lib.hid (at_bad hE he)
    rw [hE]
    obtain ⟨KK, hK⟩ : ∃ v, v = zoneK d nm := ⟨_, rfl⟩
    obtain ⟨EE, hEE⟩ : ∃ v, v = zoneEr d nm := ⟨_, rfl⟩
    rw [← hK, ← hEE] at HZ
    rw [← hEE] at he ⊢
    have g1 : (EE != 0) = true := by simpa using he
    clear he hE hK hEE hD hM
    go_enter Tryz.func11, Tryz.ntmps11
    go_wp2_with fail
    refine (HZ.out _ hbb).mono ?_
    rintro e w3 ⟨rfl, h3⟩
    obtain ⟨hbw, _, _, _, ⟨r0, r1, r2, f0, f1, f2⟩, k2⟩ := HN.out _ h3
    have K2 := Lib.hid k2
    clear k2
    go_wp2
    refine bodyPost_ret (results_cell_row_tmp rfl _ _ (w.heap.size + 1) 28 _ (0, 0) _ rfl (set_obj (set_obj (set_obj K2.out _) _) _) Tryz.underlying28 rfl (by kernel_rfl)) rfl ⟨?_, ((hbw.setCell (by simp) _).setCell (by simp) _).setCell (by simp) _⟩
    exact ret_at HO.out.1.symm HO.out.2.1.symm HO.out.2.2.symm rfl
set_option maxRecDepth 100000 in
set_option maxHeartbeats 4000000 in
theorem offTells_walk (d : Dt) (nm : ByteArray) (t : Int) (w : World) (hD : DataAt w w.heap.size d) (hM : MaxAt w w.heap.size) :
    Calls Tryz.prog 3 #[d.val, .string nm, .int .i64 t] w fun e w' => e = .returned (.bool true) ∧ Below w.heap.size w w' := by
  have HN := Lib.hid (fun W (hb : BoxB d w W) => box_next (d := d) (w := w) (W := W) hD hb)
  have A1 := Lib.hid (fun W (hb : BoxB d w W) => at_any d nm t W (HN.out W hb).2.1 (hM.next (HN.out W hb).1))
  have A2 := Lib.hid (fun W (hb : BoxB d w W) => offOf_any d nm t W (HN.out W hb).2.1 (hM.next (HN.out W hb).1))
  have B1 := Lib.hid (fun W (hb : BoxB d w W) => offBegun_any W (hM.next (HN.out W hb).1))
  clear hD hM
  unfold Dt.val at *
  obtain ⟨TT, hT⟩ : ∃ v, v = oaTo d nm t := ⟨_, rfl⟩
  obtain ⟨SS, hS⟩ : ∃ v, v = oaSv d nm t := ⟨_, rfl⟩
  obtain ⟨AB, hA⟩ : ∃ v, v = oaAb d nm t := ⟨_, rfl⟩
  obtain ⟨EE, hEE⟩ : ∃ v, v = oaE d nm t := ⟨_, rfl⟩
  rw [← hT, ← hS, ← hA, ← hEE] at A1 A2
  clear hT hS hA hEE
  go_enter Tryz.func3, Tryz.ntmps3
  go_wp2_with fail
  refine (A1.out _ (Below.refl _ _)).mono ?_
  rintro e u1 ⟨rfl, h1⟩
  have hb1 : BoxB d w u1 := h1.mono (by simp)
  have hbv : BoxB d w (u1.alloc (.cells #[.int .i64 TT, .int .i64 SS, .string AB] 28)) := Below.alloc hb1 (by have := hb1.size; simpa using this) _
  have HO : Hid (∀ W, Below (u1.alloc (.cells #[.int .i64 TT, .int .i64 SS, .string AB] 28)).heap.size (u1.alloc (.cells #[.int .i64 TT, .int .i64 SS, .string AB] 28)) W → BoxB d w W ∧ (W.cell? ⟨u1.heap.size, 0, none⟩ = some (.int .i64 TT) ∧ W.cell? ⟨u1.heap.size, 1, none⟩ = some (.int .i64 SS) ∧ W.cell? ⟨u1.heap.size, 2, none⟩ = some (.string AB))) := Lib.hid (fun W h => by
    have k := (h.block u1.heap.size (by simp)).trans (World.alloc_heap_new u1 (.cells #[.int .i64 TT, .int .i64 SS, .string AB] 28))
    exact ⟨hbv.trans (h.mono (by have := hbv.size; simp at this ⊢ <;> omega)), cell_of k rfl, cell_of k rfl, cell_of k rfl⟩)
  have HU := Lib.hid hbv
  obtain ⟨_, _, c0, c1, c2⟩ := HN.out _ hbv
  clear h1 hb1 hbv
  go_wp2_with fail
  clear c0 c1 c2
  obtain ⟨v1, hv⟩ : ∃ v : World, v = u1.alloc (.cells #[.int .i64 TT, .int .i64 SS, .string AB] 28) := ⟨_, rfl⟩
  rw [← hv] at HO HU
  rw [← hv]
  clear hv
  refine (A2.out _ HU.out).mono ?_
  rintro e u2 ⟨rfl, h2⟩
  have hc2 : Below v1.heap.size v1 (u2.alloc (.cells #[.int .i64 TT, .int .i64 SS, .string AB] 28)) := Below.alloc h2 h2.size _
  have HQ : Hid (∀ W, Below (u2.alloc (.cells #[.int .i64 TT, .int .i64 SS, .string AB] 28)).heap.size (u2.alloc (.cells #[.int .i64 TT, .int .i64 SS, .string AB] 28)) W → (Below v1.heap.size v1 W) ∧ (W.cell? ⟨u2.heap.size, 0, none⟩ = some (.int .i64 TT) ∧ W.cell? ⟨u2.heap.size, 1, none⟩ = some (.int .i64 SS) ∧ W.cell? ⟨u2.heap.size, 2, none⟩ = some (.string AB))) := Lib.hid (fun W h => by
    have k := (h.block u2.heap.size (by simp)).trans (World.alloc_heap_new u2 (.cells #[.int .i64 TT, .int .i64 SS, .string AB] 28))
    exact ⟨hc2.trans (h.mono hc2.size), cell_of k rfl, cell_of k rfl, cell_of k rfl⟩)
  have HC2 := Lib.hid hc2
  clear h2 hc2
  go_wp2_with fail
  refine (B1.out _ (HO.out _ HC2.out).1).mono ?_
  rintro e u3 ⟨rfl, h3⟩
  obtain ⟨hq, q0, q1, q2⟩ := HQ.out _ h3
  obtain ⟨ho, o0, o1, o2⟩ := HO.out _ hq
  have hbw := (HN.out _ ho).1
  clear h3 hq ho
  go_wp2
  go_ret
  exact ⟨rfl, hbw⟩
end Go.Proofs.YtlngalmdidaahaaGreatDoor
end
