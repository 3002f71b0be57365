/- off.At. -/
import Derived.Test.YtbbbeldbhlehnaaGreatDoorMUNmTl29
set_option linter.unusedSimpArgs false
set_option linter.unusedVariables false
/-! off.At. -/
section
set_option linter.unusedVariables false
set_option linter.unusedSimpArgs false
namespace Go.Proofs.YtbbbeldbhlehnaaGreatDoor
open Go.RowKit Gno
theorem at_next {d : Dt} {w W : World} (hD : DataAt w w.heap.size d) (hM : MaxAt w w.heap.size) (hb : Below (w.heap.size + 2) ((w.alloc (.cells #[.slice d.sA d.sn d.sc, .slice d.zA d.zn d.zc, .slice d.lA d.ln d.lc] 26)).alloc (.cells #[.int .i64 0, .int .i64 0, .string ⟨#[]⟩] 46)) W) :
    Below w.heap.size w W ∧ DataAt W W.heap.size d ∧ MaxAt W W.heap.size ∧ (W.cell? ⟨w.heap.size, 0, none⟩ = some (.slice d.sA d.sn d.sc) ∧ W.cell? ⟨w.heap.size, 1, none⟩ = some (.slice d.zA d.zn d.zc) ∧ W.cell? ⟨w.heap.size, 2, none⟩ = some (.slice d.lA d.ln d.lc)) ∧ (W.cell? ⟨w.heap.size + 1, 0, none⟩ = some (.int .i64 0) ∧ W.cell? ⟨w.heap.size + 1, 1, none⟩ = some (.int .i64 0) ∧ W.cell? ⟨w.heap.size + 1, 2, none⟩ = some (.string ⟨#[]⟩) ∧ W.frozen? ⟨w.heap.size + 1, 0, none⟩ = false ∧ W.frozen? ⟨w.heap.size + 1, 1, none⟩ = false ∧ W.frozen? ⟨w.heap.size + 1, 2, none⟩ = false) ∧ W.heap[w.heap.size + 1]? = some (.cells #[.int .i64 0, .int .i64 0, .string ⟨#[]⟩] 46) := by
  have k0 : ((w.alloc (.cells #[.slice d.sA d.sn d.sc, .slice d.zA d.zn d.zc, .slice d.lA d.ln d.lc] 26)).alloc (.cells #[.int .i64 0, .int .i64 0, .string ⟨#[]⟩] 46)).heap[w.heap.size]? = some (.cells #[.slice d.sA d.sn d.sc, .slice d.zA d.zn d.zc, .slice d.lA d.ln d.lc] 26) := by rw [push_past _ _ _ (by simp), push_at _ _ _ rfl]
  have k2 : ((w.alloc (.cells #[.slice d.sA d.sn d.sc, .slice d.zA d.zn d.zc, .slice d.lA d.ln d.lc] 26)).alloc (.cells #[.int .i64 0, .int .i64 0, .string ⟨#[]⟩] 46)).heap[w.heap.size + 1]? = some (.cells #[.int .i64 0, .int .i64 0, .string ⟨#[]⟩] 46) := push_at _ _ _ (by simp)
  have kb : Below w.heap.size w ((w.alloc (.cells #[.slice d.sA d.sn d.sc, .slice d.zA d.zn d.zc, .slice d.lA d.ln d.lc] 26)).alloc (.cells #[.int .i64 0, .int .i64 0, .string ⟨#[]⟩] 46)) := (((Below.refl w.heap.size w).alloc (Nat.le_refl _) _).alloc (by simp) _)
  have k0 := (hb.block _ (by omega)).trans k0
  have k2 := (hb.block _ (by omega)).trans k2
  have hbw : Below w.heap.size w W := kb.trans (hb.mono (by omega))
  exact ⟨hbw, hD.next hbw, hM.next hbw, ⟨cell_of k0 rfl, cell_of k0 rfl, cell_of k0 rfl⟩, ⟨cell_of k2 rfl, cell_of k2 rfl, cell_of k2 rfl, frozen_of k2, frozen_of k2, frozen_of k2⟩, k2⟩
theorem ret_at {a b a' b' e e' : Int} {s s' : ByteArray} (h1 : a = a') (h2 : b = b') (h3 : s = s') (h4 : e = e') : Ending.returned (.tuple #[.agg #[.int .i64 a, .int .i64 b, .string s], .int .i64 e]) = .returned (.tuple #[.agg #[.int .i64 a', .int .i64 b', .string s'], .int .i64 e']) := by rw [h1, h2, h3, h4]
set_option maxRecDepth 100000 in
set_option maxHeartbeats 4000000 in
theorem at_any (d : Dt) (nm : ByteArray) (t : Int) (w : World) (hD : DataAt w w.heap.size d) (hM : MaxAt w w.heap.size) :
    Calls Tryz.prog 20 #[d.val, .string nm, .int .i64 t] w fun e w' => e = .returned (.tuple #[.agg #[.int .i64 (oaTo d nm t), .int .i64 (oaSv d nm t), .string (oaAb d nm t)], .int .i64 (oaE d nm t)]) ∧ Below w.heap.size w w' := by
  have HN := Lib.hid (fun W hb => at_next (d := d) (w := w) (W := W) hD hM hb)
  have HZ : Hid (∀ W, Below (w.heap.size + 2) ((w.alloc (.cells #[.slice d.sA d.sn d.sc, .slice d.zA d.zn d.zc, .slice d.lA d.ln d.lc] 26)).alloc (.cells #[.int .i64 0, .int .i64 0, .string ⟨#[]⟩] 46)) W → Calls Tryz.prog 21 #[.agg #[.slice d.sA d.sn d.sc, .slice d.zA d.zn d.zc, .slice d.lA d.ln d.lc], .string nm] W fun e w' => e = .returned (.tuple #[.int .i64 (zoneK d nm), .int .i64 (zoneEr d nm)]) ∧ Below (w.heap.size + 2) ((w.alloc (.cells #[.slice d.sA d.sn d.sc, .slice d.zA d.zn d.zc, .slice d.lA d.ln d.lc] 26)).alloc (.cells #[.int .i64 0, .int .i64 0, .string ⟨#[]⟩] 46)) w') := Lib.hid (fun W h =>
    (zone_any d nm W (HN.out W h).2.1 (HN.out W h).2.2.1).mono fun _ _ h2 => ⟨h2.1, h.trans (h2.2.mono (by have := h.size; simp at this ⊢ <;> omega))⟩)
  have hbb := Below.refl (w.heap.size + 2) ((w.alloc (.cells #[.slice d.sA d.sn d.sc, .slice d.zA d.zn d.zc, .slice d.lA d.ln d.lc] 26)).alloc (.cells #[.int .i64 0, .int .i64 0, .string ⟨#[]⟩] 46))
  unfold Dt.val
  by_cases he : zoneEr d nm = 0
  · by_cases ht : t < 0 ∨ 1893456000 ≤ t
    · have hE : oaE d nm t = 3 := by unfold oaE; rw [if_neg (by simp [he]), if_pos ht]
      have HO := Lib.hid (at_bad hE (by decide))
      rw [hE]
      obtain ⟨KK, hK⟩ : ∃ v, v = zoneK d nm := ⟨_, rfl⟩
      rw [he, ← hK] at HZ
      clear he hE hK hD hM
      by_cases h1 : t < 0
      · have g1 : decide (t < (0 : Int)) = true := by simpa using h1
        clear ht
        go_enter Tryz.func20, Tryz.ntmps20
        go_wp2_with fail
        refine (HZ.out _ hbb).mono ?_
        rintro e w3 ⟨rfl, h3⟩
        obtain ⟨hbw, _, _, _, ⟨r0, r1, r2, f0, f1, f2⟩, k2⟩ := HN.out _ h3
        have K2 := Lib.hid k2
        clear k2
        go_wp2
        refine bodyPost_ret (results_cell_row_tmp rfl _ _ (w.heap.size + 1) 46 _ (0, 0) _ rfl (set_obj (set_obj (set_obj K2.out _) _) _) Tryz.underlying46 rfl (by kernel_rfl)) rfl ⟨?_, ((hbw.setCell (by simp) _).setCell (by simp) _).setCell (by simp) _⟩
        exact ret_at HO.out.1.symm HO.out.2.1.symm HO.out.2.2.symm rfl
      · have g1 : decide (t < (0 : Int)) = false := by simpa using h1
        have g2 : decide ((1893456000 : Int) ≤ t) = true := by simp; omega
        clear ht
        go_enter Tryz.func20, Tryz.ntmps20
        go_wp2_with fail
        refine (HZ.out _ hbb).mono ?_
        rintro e w3 ⟨rfl, h3⟩
        obtain ⟨hbw, _, _, _, ⟨r0, r1, r2, f0, f1, f2⟩, k2⟩ := HN.out _ h3
        have K2 := Lib.hid k2
        clear k2
        go_wp2
        refine bodyPost_ret (results_cell_row_tmp rfl _ _ (w.heap.size + 1) 46 _ (0, 0) _ rfl (set_obj (set_obj (set_obj K2.out _) _) _) Tryz.underlying46 rfl (by kernel_rfl)) rfl ⟨?_, ((hbw.setCell (by simp) _).setCell (by simp) _).setCell (by simp) _⟩
        exact ret_at HO.out.1.symm HO.out.2.1.symm HO.out.2.2.symm rfl
    · have hE : oaE d nm t = 0 := by unfold oaE; rw [if_neg (by simp [he]), if_neg ht]
      have hd0 : dataE d = 0 := by
        unfold zoneEr at he
        split at he
        · rename_i q; exact absurd he q
        · rename_i q; exact Classical.not_not.1 q
      have hle : ¬ leadN d nm < 0 := by
        intro q
        have := (zone_none (nm := nm) hd0 q).2
        rw [he] at this; cases this
      have hzk := (zone_is (nm := nm) hd0 hle).1
      have hlr := (leadT_range d (d.ls.length + 1) nm).2
      have hlr : leadN d nm < d.zs.length := hlr
      have hzk0 : 0 ≤ zoneK d nm := by omega
      have hzq := List.getElem?_eq_getElem (l := d.zs) (i := (zoneK d nm).toNat) (by omega)
      have hr := rightE_of hd0
      have HO := Lib.hid (at_good hE hzq)
      rw [hE]
      have HF : Hid (∀ W, Below (w.heap.size + 2) ((w.alloc (.cells #[.slice d.sA d.sn d.sc, .slice d.zA d.zn d.zc, .slice d.lA d.ln d.lc] 26)).alloc (.cells #[.int .i64 0, .int .i64 0, .string ⟨#[]⟩] 46)) W → Calls Tryz.prog 52 #[.agg #[.slice d.sA d.sn d.sc, .slice d.zA d.zn d.zc, .slice d.lA d.ln d.lc], .int .i64 (zoneK d nm), .int .i64 t] W fun e w' => e = .returned (.agg #[.int .i64 (oaTo d nm t), .int .i64 (oaSv d nm t), .string (oaAb d nm t)]) ∧ Below (w.heap.size + 2) ((w.alloc (.cells #[.slice d.sA d.sn d.sc, .slice d.zA d.zn d.zc, .slice d.lA d.ln d.lc] 26)).alloc (.cells #[.int .i64 0, .int .i64 0, .string ⟨#[]⟩] 46)) w') := Lib.hid (fun W h => by
        have h2 := of_any d (zoneK d nm) t _ W (HN.out W h).2.1 (HN.out W h).2.2.1 hr hzq hzk0 (by omega)
        rw [← HO.out.1, ← HO.out.2.1, ← HO.out.2.2] at h2
        exact h2.mono fun _ _ h3 => ⟨h3.1, h.trans (h3.2.mono (by have := h.size; simp at this ⊢ <;> omega))⟩)
      obtain ⟨KK, hK⟩ : ∃ v, v = zoneK d nm := ⟨_, rfl⟩
      obtain ⟨TT, hTT⟩ : ∃ v, v = oaTo d nm t := ⟨_, rfl⟩
      obtain ⟨SS, hSS⟩ : ∃ v, v = oaSv d nm t := ⟨_, rfl⟩
      obtain ⟨AB, hAB⟩ : ∃ v, v = oaAb d nm t := ⟨_, rfl⟩
      rw [he, ← hK] at HZ
      rw [← hK, ← hTT, ← hSS, ← hAB] at HF
      rw [← hTT, ← hSS, ← hAB]
      have g1 : decide (t < (0 : Int)) = false := by simp; omega
      have g2 : decide ((1893456000 : Int) ≤ t) = false := by simp; omega
      clear he hE hK hTT hSS hAB hD hM hd0 hle hzk hlr hzk0 hzq hr HO ht
      go_enter Tryz.func20, Tryz.ntmps20
      go_wp2_with fail
      refine (HZ.out _ hbb).mono ?_
      rintro e w3 ⟨rfl, h3⟩
      obtain ⟨_, _, _, ⟨c0, c1, c2⟩, _⟩ := HN.out _ h3
      go_wp2_with fail
      refine (HF.out _ h3).mono ?_
      rintro e w4 ⟨rfl, h4⟩
      clear c0 c1 c2
      obtain ⟨hbw, _, _, _, ⟨r0, r1, r2, f0, f1, f2⟩, k2⟩ := HN.out _ h4
      have K2 := Lib.hid k2
      clear k2
      go_wp2
      refine bodyPost_ret (results_cell_row_tmp rfl _ _ (w.heap.size + 1) 46 _ (0, 0) _ rfl (set_obj (set_obj (set_obj K2.out _) _) _) Tryz.underlying46 rfl (by kernel_rfl)) rfl ⟨rfl, ((hbw.setCell (by simp) _).setCell (by simp) _).setCell (by simp) _⟩
  · have hE : oaE d nm t = zoneEr d nm := by unfold oaE; rw [if_pos he]
    have HO := Lib.hid (at_bad hE he)
    rw [hE]
    obtain ⟨KK, hK⟩ : ∃ v, v = zoneK d nm := ⟨_, rfl⟩
    obtain ⟨EE, hEE⟩ : ∃ v, v = zoneEr d nm := ⟨_, rfl⟩
    rw [← hK, ← hEE] at HZ
    rw [← hEE] at he ⊢
    have g1 : (EE != 0) = true := by simpa using he
    clear he hE hK hEE hD hM
    go_enter Tryz.func20, Tryz.ntmps20
    go_wp2_with fail
    refine (HZ.out _ hbb).mono ?_
    rintro e w3 ⟨rfl, h3⟩
    obtain ⟨hbw, _, _, _, ⟨r0, r1, r2, f0, f1, f2⟩, k2⟩ := HN.out _ h3
    have K2 := Lib.hid k2
    clear k2
    go_wp2
    refine bodyPost_ret (results_cell_row_tmp rfl _ _ (w.heap.size + 1) 46 _ (0, 0) _ rfl (set_obj (set_obj (set_obj K2.out _) _) _) Tryz.underlying46 rfl (by kernel_rfl)) rfl ⟨?_, ((hbw.setCell (by simp) _).setCell (by simp) _).setCell (by simp) _⟩
    exact ret_at HO.out.1.symm HO.out.2.1.symm HO.out.2.2.symm rfl
end Go.Proofs.YtbbbeldbhlehnaaGreatDoor
end
