/- Parts of a proof, laid together. -/
import Derived.Laws.Rows
import Derived.Laws.ResultCell
import Derived.Deep.RegionHeld3
import Derived.BigRegion
import Derived.Test.YtbbbeldbhlehnaaGreatDoorMUTrB227
import Derived.Test.YtbbbeldbhlehnaaGreatDoorMUTrB26
import Derived.Test.YtbbbeldbhlehnaaGreatDoorMUTrB213
set_option linter.unusedSimpArgs false
set_option linter.unusedVariables false
section
namespace Go.Proofs.YtbbbeldbhlehnaaGreatDoor
open Go.RowKit Gno
theorem let_ne {le : ByteArray} (h : allLet le = true) : (pct.data.toList == le.data.toList) = false := by
 cases e : (pct.data.toList == le.data.toList)
 ·rfl
 ·have e := beq_iff_eq.1 e
  unfold allLet at h
  rw [← e] at h
  exact absurd h (by decide)
theorem wrap_small {v : Int} (h1 : -1000000 ≤ v) (h2 : v ≤ 1000000) : IntKind.i64.wrap v = v := by
 simp [IntKind.wrap, IntKind.bits, IntKind.signed]
 omega
theorem let_nil : allLet ⟨#[]⟩ = true := by decide
theorem replace_any (s le : ByteArray) (w : World) (hs : s.size ≤ 12) (hl : le.size ≤ 12) (ha : allLet le = true) (hM : MaxAt w w.heap.size) :
 Calls Tryz.prog 160 #[.string s, .string ⟨#[37, 115]⟩, .string le, .int .i64 1] w fun e w' => e = .returned (.string (repl s le)) ∧ Below w.heap.size w w' := by
 obtain ⟨_, m, hm⟩ := hM
 have hc := count_le pct.data.toList (s.data.toList.length + 1) s.data.toList
 have h1 : s.data.toList.length = s.size := by simp
 have := Go.Proofs.Tryz.strings_Replace s pct le 1 m w (by omega) hm (by decide) (by
  have h2 : Lib.countB s pct ≤ 13 := by
   show Lib.count s.data.toList pct.data.toList ≤ 13
   unfold Lib.count
   omega
  have h3 : Lib.countB s pct * le.size ≤ 13 * 12 := Nat.mul_le_mul h2 hl
  omega)
 rw [repl_one s le (let_ne ha)] at this
 exact this
theorem ruleHas_any (x : Rl) (w : World) :
 Calls Tryz.prog 174 #[.agg #[.int .i64 x.fy, .int .i64 x.ty, .int .i64 x.mo, .int .i64 x.k, .int .i64 x.wk, .int .i64 x.d, .int .i64 x.a, .int .i64 x.sv, .string x.le]] w fun e w' => e = .returned (.bool (noSave x)) ∧ Below w.heap.size w w' := by
 go_enter Tryz.func174, Tryz.ntmps174
 go_wp2
 go_ret
 exact ⟨ret_bool rfl, (Below.refl _ _).alloc (Nat.le_refl _) _⟩
theorem hold_next {d : Dt} {x : Er} {w W : World} (hD : DataAt w w.heap.size d) (hM : MaxAt w w.heap.size) (hb : Below (w.heap.size + 3) (((w.alloc (.cells #[.slice d.sA d.sn d.sc, .slice d.zA d.zn d.zc, .slice d.lA d.ln d.lc] 26)).alloc (.cells #[.int .i64 x.std, .int .i64 x.set, .int .i64 x.save, .string x.fmt, .int .i64 x.til] 125)).alloc (.cells #[.int .i64 0, .int .i64 0, .string ⟨#[]⟩] 46)) W) :
 Below w.heap.size w W ∧ DataAt W W.heap.size d ∧ MaxAt W W.heap.size ∧ (W.cell? ⟨w.heap.size, 0, none⟩ = some (.slice d.sA d.sn d.sc)) ∧ (W.cell? ⟨w.heap.size + 1, 0, none⟩ = some (.int .i64 x.std) ∧ W.cell? ⟨w.heap.size + 1, 1, none⟩ = some (.int .i64 x.set) ∧ W.cell? ⟨w.heap.size + 1, 2, none⟩ = some (.int .i64 x.save) ∧ W.cell? ⟨w.heap.size + 1, 3, none⟩ = some (.string x.fmt)) ∧ (W.cell? ⟨w.heap.size + 1 + 1, 0, none⟩ = some (.int .i64 0) ∧ W.cell? ⟨w.heap.size + 1 + 1, 1, none⟩ = some (.int .i64 0) ∧ W.cell? ⟨w.heap.size + 1 + 1, 2, none⟩ = some (.string ⟨#[]⟩) ∧ W.frozen? ⟨w.heap.size + 1 + 1, 0, none⟩ = false ∧ W.frozen? ⟨w.heap.size + 1 + 1, 1, none⟩ = false ∧ W.frozen? ⟨w.heap.size + 1 + 1, 2, none⟩ = false) ∧ W.heap[w.heap.size + 1 + 1]? = some (.cells #[.int .i64 0, .int .i64 0, .string ⟨#[]⟩] 46) := by
 have k0 : (((w.alloc (.cells #[.slice d.sA d.sn d.sc, .slice d.zA d.zn d.zc, .slice d.lA d.ln d.lc] 26)).alloc (.cells #[.int .i64 x.std, .int .i64 x.set, .int .i64 x.save, .string x.fmt, .int .i64 x.til] 125)).alloc (.cells #[.int .i64 0, .int .i64 0, .string ⟨#[]⟩] 46)).heap[w.heap.size]? = some (.cells #[.slice d.sA d.sn d.sc, .slice d.zA d.zn d.zc, .slice d.lA d.ln d.lc] 26) := by rw [push_past _ _ _ (by simp; omega), push_past _ _ _ (by simp), push_at _ _ _ rfl]
 have k1 : (((w.alloc (.cells #[.slice d.sA d.sn d.sc, .slice d.zA d.zn d.zc, .slice d.lA d.ln d.lc] 26)).alloc (.cells #[.int .i64 x.std, .int .i64 x.set, .int .i64 x.save, .string x.fmt, .int .i64 x.til] 125)).alloc (.cells #[.int .i64 0, .int .i64 0, .string ⟨#[]⟩] 46)).heap[w.heap.size + 1]? = some (.cells #[.int .i64 x.std, .int .i64 x.set, .int .i64 x.save, .string x.fmt, .int .i64 x.til] 125) := by rw [push_past _ _ _ (by simp), push_at _ _ _ (by simp)]
 have k2 : (((w.alloc (.cells #[.slice d.sA d.sn d.sc, .slice d.zA d.zn d.zc, .slice d.lA d.ln d.lc] 26)).alloc (.cells #[.int .i64 x.std, .int .i64 x.set, .int .i64 x.save, .string x.fmt, .int .i64 x.til] 125)).alloc (.cells #[.int .i64 0, .int .i64 0, .string ⟨#[]⟩] 46)).heap[w.heap.size + 1 + 1]? = some (.cells #[.int .i64 0, .int .i64 0, .string ⟨#[]⟩] 46) := push_at _ _ _ (by simp)
 have kb : Below w.heap.size w (((w.alloc (.cells #[.slice d.sA d.sn d.sc, .slice d.zA d.zn d.zc, .slice d.lA d.ln d.lc] 26)).alloc (.cells #[.int .i64 x.std, .int .i64 x.set, .int .i64 x.save, .string x.fmt, .int .i64 x.til] 125)).alloc (.cells #[.int .i64 0, .int .i64 0, .string ⟨#[]⟩] 46)) := ((((Below.refl w.heap.size w).alloc (Nat.le_refl _) _).alloc (by simp) _).alloc (by simp; omega) _)
 have k0 := (hb.block _ (by omega)).trans k0
 have k1 := (hb.block _ (by omega)).trans k1
 have k2 := (hb.block _ (by omega)).trans k2
 have hbw : Below w.heap.size w W := kb.trans (hb.mono (by omega))
 exact ⟨hbw, hD.next hbw, hM.next hbw, cell_of k0 rfl, ⟨cell_of k1 rfl, cell_of k1 rfl, cell_of k1 rfl, cell_of k1 rfl⟩, ⟨cell_of k2 rfl, cell_of k2 rfl, cell_of k2 rfl, frozen_of k2, frozen_of k2, frozen_of k2⟩, k2⟩
set_option maxRecDepth 100000 in
set_option maxHeartbeats 4000000 in
theorem holds_bare (d : Dt) (x : Er) (t : Int) (w : World) (hD : DataAt w w.heap.size d) (hM : MaxAt w w.heap.size) (hr : ∀ s ∈ d.ss, ∀ r ∈ s.rs, r.e = 0) (hx : (-50400 ≤ x.std ∧ x.std ≤ 50400) ∧ (-1 ≤ x.set ∧ x.set < d.sn) ∧ (0 ≤ x.save ∧ x.save ≤ 7200) ∧ (x.set < 0 ∨ x.save = 0)) (hf : fmtOk x.fmt = true) (hs : x.set < 0) :
 Calls Tryz.prog 111 #[d.val, .agg #[.int .i64 x.std, .int .i64 x.set, .int .i64 x.save, .string x.fmt, .int .i64 x.til], .int .i64 t] w fun e w' => e = .returned (.agg #[.int .i64 (offTo d x t), .int .i64 (offSv d x t), .string (offAb d x t)]) ∧ Below w.heap.size w w' := by
 have hf12 : x.fmt.size ≤ 12 := by
  unfold fmtOk at hf
  simp at hf
  omega
 have HN := Lib.hid (fun W hb => hold_next (d := d) (x := x) (w := w) (W := W) hD hM hb)
 obtain ⟨⟨b1, b2⟩, ⟨b3, b4⟩, ⟨b5, b6⟩, b7⟩ := hx
 unfold Dt.val
 have HO := Lib.hid (off_none (offR_none (d := d) (t := t) hs))
 have g1 : decide ((0 : Int) ≤ x.set) = false := by simp; omega
 have hall := let_nil
 have hle12 : (ByteArray.mk #[]).size ≤ 12 := by decide
 have hbb := Below.refl (w.heap.size + 3) (((w.alloc (.cells #[.slice d.sA d.sn d.sc, .slice d.zA d.zn d.zc, .slice d.lA d.ln d.lc] 26)).alloc (.cells #[.int .i64 x.std, .int .i64 x.set, .int .i64 x.save, .string x.fmt, .int .i64 x.til] 125)).alloc (.cells #[.int .i64 0, .int .i64 0, .string ⟨#[]⟩] 46))
 clear hr hD hM hs hf b7
 go_enter Tryz.func111, Tryz.ntmps111
 go_wp2_with fail
 have hdr := (hbb).drew
 obtain ⟨_, _, hMd, _, ⟨x0, x1, x2, x3⟩, _⟩ := HN.out _ hdr
 have hwr : IntKind.i64.wrap (x.std + x.save) = x.std + x.save := wrap_small (by omega) (by omega)
 obtain ⟨AB, hAB⟩ : ∃ v, v = repl x.fmt ⟨#[]⟩ := ⟨_, rfl⟩
 have RP : Hid (Calls Tryz.prog 160 #[.string x.fmt, .string ⟨#[37, 115]⟩, .string ⟨#[]⟩, .int .i64 1] ((((w.alloc (.cells #[.slice d.sA d.sn d.sc, .slice d.zA d.zn d.zc, .slice d.lA d.ln d.lc] 26)).alloc (.cells #[.int .i64 x.std, .int .i64 x.set, .int .i64 x.save, .string x.fmt, .int .i64 x.til] 125)).alloc (.cells #[.int .i64 0, .int .i64 0, .string ⟨#[]⟩] 46))).drew fun e w' => e = .returned (.string AB) ∧ Below (w.heap.size + 3) (((w.alloc (.cells #[.slice d.sA d.sn d.sc, .slice d.zA d.zn d.zc, .slice d.lA d.ln d.lc] 26)).alloc (.cells #[.int .i64 x.std, .int .i64 x.set, .int .i64 x.save, .string x.fmt, .int .i64 x.til] 125)).alloc (.cells #[.int .i64 0, .int .i64 0, .string ⟨#[]⟩] 46)) w') := Lib.hid (by
  rw [hAB]
  exact (replace_any x.fmt ⟨#[]⟩ _ hf12 hle12 hall hMd).mono fun _ _ h2 => ⟨h2.1, hdr.trans (h2.2.mono (by have := hdr.size; simp at this ⊢ <;> omega))⟩)
 have HAB := Lib.hid hAB
 clear hAB hMd
 go_region_held3 (fun w' => w'.cell? ⟨w.heap.size + 1, 0, none⟩ = some (.int .i64 x.std) ∧ w'.cell? ⟨w.heap.size + 1, 3, none⟩ = some (.string x.fmt))
  (refine ⟨?_, ?_⟩ <;> (first | assumption | go_keep))
  (first
   | (go_at_call 160; refine RP.out.mono ?_; rintro e w9 ⟨rfl, h9⟩; obtain ⟨_, _, _, _, ⟨y0, y1, y2, y3⟩, ⟨r0, r1, r2, f0, f1, f2⟩, _⟩ := HN.out _ h9; have H9 := Lib.hid h9; clear h9))
 go_wp2
 obtain ⟨hbw, _, _, _, _, _, k2⟩ := HN.out _ H9.out
 refine bodyPost_ret (results_cell_row rfl _ _ (w.heap.size + 1 + 1) 46 _ (0, 0) _ rfl (set_obj (set_obj (set_obj k2 _) _) _) Tryz.underlying46 rfl (by kernel_rfl)) rfl ⟨?_, ((hbw.setCell (by simp; omega) _).setCell (by simp; omega) _).setCell (by simp; omega) _⟩
 have e1 : offTo d x t = x.std + x.save := by unfold offTo; rw [HO.out.1]
 have e2 : offAb d x t = AB := by unfold offAb; rw [HO.out.2, HAB.out]
 rw [e1, e2, HO.out.1]
 rfl
end Go.Proofs.YtbbbeldbhlehnaaGreatDoor
end
section
namespace Go.Proofs.YtbbbeldbhlehnaaGreatDoor
open Go.RowKit Gno
set_option maxRecDepth 100000 in
set_option maxHeartbeats 4000000 in
theorem holds_set (d : Dt) (x : Er) (t : Int) (w : World) (hD : DataAt w w.heap.size d) (hM : MaxAt w w.heap.size) (hr : ∀ s ∈ d.ss, ∀ r ∈ s.rs, r.e = 0) (hx : (-50400 ≤ x.std ∧ x.std ≤ 50400) ∧ (-1 ≤ x.set ∧ x.set < d.sn) ∧ (0 ≤ x.save ∧ x.save ≤ 7200) ∧ (x.set < 0 ∨ x.save = 0)) (hf : fmtOk x.fmt = true) (hs : ¬ x.set < 0) :
 Calls Tryz.prog 111 #[d.val, .agg #[.int .i64 x.std, .int .i64 x.set, .int .i64 x.save, .string x.fmt, .int .i64 x.til], .int .i64 t] w fun e w' => e = .returned (.agg #[.int .i64 (offTo d x t), .int .i64 (offSv d x t), .string (offAb d x t)]) ∧ Below w.heap.size w w' := by
 have hf12 : x.fmt.size ≤ 12 := by
  unfold fmtOk at hf
  simp at hf
  omega
 have HN := Lib.hid (fun W hb => hold_next (d := d) (x := x) (w := w) (W := W) hD hM hb)
 obtain ⟨⟨b1, b2⟩, ⟨b3, b4⟩, ⟨b5, b6⟩, b7⟩ := hx
 unfold Dt.val
 obtain ⟨b, o, q, hA, hbB, hq, hq1, hq2⟩ := sets_get hD.1 (i := x.set.toNat) (by omega)
 obtain ⟨qn, A2, n2, cap2, rs2⟩ := q
 have hs0 : 0 ≤ x.set := by omega
 have g1 : decide ((0 : Int) ≤ x.set) = true := by simp; omega
 have HRE := Lib.hid (hr _ (List.mem_of_getElem? hq))
 have HO0 := Lib.hid (offR_set (t := t) hs hq)
 have HC : Hid (∀ W, Below (w.heap.size + 3) (((w.alloc (.cells #[.slice d.sA d.sn d.sc, .slice d.zA d.zn d.zc, .slice d.lA d.ln d.lc] 26)).alloc (.cells #[.int .i64 x.std, .int .i64 x.set, .int .i64 x.save, .string x.fmt, .int .i64 x.til] 125)).alloc (.cells #[.int .i64 0, .int .i64 0, .string ⟨#[]⟩] 46)) W → W.cell? ⟨w.heap.size, 0, none⟩ = some (.slice (some ⟨b, o, none⟩) d.sn d.sc) ∧ W.cell? ⟨b, o + x.set.toNat * 2 + 1, none⟩ = some (.slice A2 n2 cap2)) := Lib.hid (fun W h => by
  have h1 := HN.out W h
  exact ⟨hA ▸ h1.2.2.2.1, (hq2 W h1.1).1.2⟩)
 have HRS : Hid (∀ W, Below (w.heap.size + 3) (((w.alloc (.cells #[.slice d.sA d.sn d.sc, .slice d.zA d.zn d.zc, .slice d.lA d.ln d.lc] 26)).alloc (.cells #[.int .i64 x.std, .int .i64 x.set, .int .i64 x.save, .string x.fmt, .int .i64 x.til] 125)).alloc (.cells #[.int .i64 0, .int .i64 0, .string ⟨#[]⟩] 46)) W → RulesAt W W.heap.size A2 n2 rs2) := Lib.hid (fun W h => by
  have h1 := (HN.out W h).1
  exact ((hq2 W h1).2).more (by have := h1.size; omega))
 have hn2 : n2 ≤ 9223372036854775807 := (hq2 w (Below.refl _ _)).2.2.1
 have hl2 : rs2.length = n2 := (hq2 w (Below.refl _ _)).2.1
 have hbb := Below.refl (w.heap.size + 3) (((w.alloc (.cells #[.slice d.sA d.sn d.sc, .slice d.zA d.zn d.zc, .slice d.lA d.ln d.lc] 26)).alloc (.cells #[.int .i64 x.std, .int .i64 x.set, .int .i64 x.save, .string x.fmt, .int .i64 x.til] 125)).alloc (.cells #[.int .i64 0, .int .i64 0, .string ⟨#[]⟩] 46))
 have LA : Hid (∀ W, Below (w.heap.size + 3) (((w.alloc (.cells #[.slice d.sA d.sn d.sc, .slice d.zA d.zn d.zc, .slice d.lA d.ln d.lc] 26)).alloc (.cells #[.int .i64 x.std, .int .i64 x.set, .int .i64 x.save, .string x.fmt, .int .i64 x.til] 125)).alloc (.cells #[.int .i64 0, .int .i64 0, .string ⟨#[]⟩] 46)) W → Calls Tryz.prog 172 #[.slice A2 n2 cap2, .int .i64 x.std, .int .i64 t] W fun e w' => e = .returned (.tuple #[.int .i64 (latest rs2 x.std t).1, .int .i64 (latest rs2 x.std t).2]) ∧ Below (w.heap.size + 3) (((w.alloc (.cells #[.slice d.sA d.sn d.sc, .slice d.zA d.zn d.zc, .slice d.lA d.ln d.lc] 26)).alloc (.cells #[.int .i64 x.std, .int .i64 x.set, .int .i64 x.save, .string x.fmt, .int .i64 x.til] 125)).alloc (.cells #[.int .i64 0, .int .i64 0, .string ⟨#[]⟩] 46)) w') := Lib.hid (fun W h =>
  (latest_any A2 n2 cap2 rs2 x.std t W (HRS.out W h) HRE.out b1 b2).mono fun _ _ h2 => ⟨h2.1, h.trans (h2.2.mono (by have := h.size; simp at this ⊢ <;> omega))⟩)
 have hR := offK_range rs2 x.std t
 obtain ⟨L2, hL2⟩ : ∃ v, v = (latest rs2 x.std t).2 := ⟨_, rfl⟩
 rw [← hL2] at LA
 clear hL2 hr hD hM hf hq hq1 hq2 hbB hA
 by_cases hk : 0 ≤ (latest rs2 x.std t).1
 ·have hkk : offK rs2 x.std t = (latest rs2 x.std t).1 := by unfold offK; rw [if_pos hk]
  rw [hkk] at hR
  obtain ⟨b2, o2, r, hA2, hb2, hrr, hrl, hrc⟩ := RulesAt.get (HRS.out _ (Below.refl _ _)) (i := ((latest rs2 x.std t).1).toNat) (by omega)
  have hre := HRE.out r (List.mem_of_getElem? hrr)
  obtain ⟨hbas, _, hlet, _⟩ := ruleE_zero hre
  obtain ⟨_, _, _, _, _, hv1, hv2⟩ := (ruleBasic_iff _ _ _ _ _).1 hbas
  have hle12 : r.le.size ≤ 12 := by
   unfold letOk at hlet
   simp at hlet
   omega
  have hall : allLet r.le = true := by
   unfold letOk at hlet
   simp at hlet
   exact hlet.2
  have HO : Hid (offSv d x t = r.sv ∧ offLe d x t = r.le) := Lib.hid (off_some (by
   rw [HO0.out]
   obtain ⟨r', h1, h2⟩ := offRl_is (rs := rs2) (std := x.std) (t := t) (by rw [hkk]; exact hk)
   rw [hkk, hrr] at h1
   injection h1 with h1
   rw [h2, h1]))
  obtain ⟨K1, hK1⟩ : ∃ v, v = (latest rs2 x.std t).1 := ⟨_, rfl⟩
  rw [← hK1] at hk hR LA hrc
  have HRC := Lib.hid hrc
  have g2 : decide (K1 < (0 : Int)) = false := by simp; omega
  have g3 : decide ((0 : Int) ≤ K1) = true := by simp; omega
  obtain ⟨hR1, hR2⟩ := hR
  rw [hl2] at hR2
  subst hA2
  obtain ⟨c0, c1⟩ := HC.out _ hbb
  clear hK1 hkk hrr hre hbas hlet hrl hrc hl2 hs
  go_enter Tryz.func111, Tryz.ntmps111
  go_wp2_with fail
  refine (LA.out _ hbb).mono ?_
  rintro e w3 ⟨rfl, h3⟩
  obtain ⟨_, _, _, _, ⟨x0, x1, x2, x3⟩, _⟩ := HN.out _ h3
  obtain ⟨e0, e1, e2, e3, e4, e5, e6, e7, e8⟩ := HRC.out _ (h3.mono (by simp))
  clear c0 c1
  go_wp2_with fail
  go_region
  go_wp2_with fail
  clear e0 e1 e2 e3 e4 e5 e6 e7 e8 x0 x1 x2 x3
  have hdr := (h3.drew).drew
  obtain ⟨_, _, hMd, _, ⟨x0, x1, x2, x3⟩, _⟩ := HN.out _ hdr
  have hwr : IntKind.i64.wrap (x.std + r.sv) = x.std + r.sv := wrap_small (by omega) (by omega)
  obtain ⟨AB, hAB⟩ : ∃ v, v = repl x.fmt r.le := ⟨_, rfl⟩
  have RP : Hid (Calls Tryz.prog 160 #[.string x.fmt, .string ⟨#[37, 115]⟩, .string r.le, .int .i64 1] (w3.drew).drew fun e w' => e = .returned (.string AB) ∧ Below (w.heap.size + 3) (((w.alloc (.cells #[.slice d.sA d.sn d.sc, .slice d.zA d.zn d.zc, .slice d.lA d.ln d.lc] 26)).alloc (.cells #[.int .i64 x.std, .int .i64 x.set, .int .i64 x.save, .string x.fmt, .int .i64 x.til] 125)).alloc (.cells #[.int .i64 0, .int .i64 0, .string ⟨#[]⟩] 46)) w') := Lib.hid (by
   rw [hAB]
   exact (replace_any x.fmt r.le _ hf12 hle12 hall hMd).mono fun _ _ h2 => ⟨h2.1, hdr.trans (h2.2.mono (by have := hdr.size; simp at this ⊢ <;> omega))⟩)
  have HAB := Lib.hid hAB
  clear hAB hMd
  go_region_held3 (fun w' => w'.cell? ⟨w.heap.size + 1, 0, none⟩ = some (.int .i64 x.std) ∧ w'.cell? ⟨w.heap.size + 1, 3, none⟩ = some (.string x.fmt))
   (refine ⟨?_, ?_⟩ <;> (first | assumption | go_keep))
   (first
    | (go_at_call 160; refine RP.out.mono ?_; rintro e w9 ⟨rfl, h9⟩; obtain ⟨_, _, _, _, ⟨y0, y1, y2, y3⟩, ⟨r0, r1, r2, f0, f1, f2⟩, _⟩ := HN.out _ h9; have H9 := Lib.hid h9; clear h9))
  go_wp2
  obtain ⟨hbw, _, _, _, _, _, k2⟩ := HN.out _ H9.out
  refine bodyPost_ret (results_cell_row rfl _ _ (w.heap.size + 1 + 1) 46 _ (0, 0) _ rfl (set_obj (set_obj (set_obj k2 _) _) _) Tryz.underlying46 rfl (by kernel_rfl)) rfl ⟨?_, ((hbw.setCell (by simp; omega) _).setCell (by simp; omega) _).setCell (by simp; omega) _⟩
  have e1 : offTo d x t = x.std + r.sv := by unfold offTo; rw [HO.out.1]
  have e2 : offAb d x t = AB := by unfold offAb; rw [HO.out.2, HAB.out]
  rw [e1, e2, HO.out.1]
  rfl
 ·have hkk : offK rs2 x.std t = fst noSave rs2 0 := by unfold offK; rw [if_neg hk]
  rw [hkk] at hR
  have IA : Hid (∀ W, Below (w.heap.size + 3) (((w.alloc (.cells #[.slice d.sA d.sn d.sc, .slice d.zA d.zn d.zc, .slice d.lA d.ln d.lc] 26)).alloc (.cells #[.int .i64 x.std, .int .i64 x.set, .int .i64 x.save, .string x.fmt, .int .i64 x.til] 125)).alloc (.cells #[.int .i64 0, .int .i64 0, .string ⟨#[]⟩] 46)) W → Calls Tryz.prog 173 #[.slice A2 n2 cap2, .func (.func 174) #[] #[]] W fun e w' => e = .returned (.int .i64 (fst noSave rs2 0)) ∧ Below (w.heap.size + 3) (((w.alloc (.cells #[.slice d.sA d.sn d.sc, .slice d.zA d.zn d.zc, .slice d.lA d.ln d.lc] 26)).alloc (.cells #[.int .i64 x.std, .int .i64 x.set, .int .i64 x.save, .string x.fmt, .int .i64 x.til] 125)).alloc (.cells #[.int .i64 0, .int .i64 0, .string ⟨#[]⟩] 46)) w') := Lib.hid (fun W h =>
   (indexRule_any 174 #[] (enters_of Tryz.func174 (by kernel_rfl) rfl) noSave A2 n2 cap2 rs2 W (HRS.out W h) (fun W2 y _ _ => ruleHas_any y W2)).mono fun _ _ h2 => ⟨h2.1, h.trans (h2.2.mono (by have := h.size; simp at this ⊢ <;> omega))⟩)
  obtain ⟨K1, hK1⟩ : ∃ v, v = (latest rs2 x.std t).1 := ⟨_, rfl⟩
  rw [← hK1] at hk LA
  have g2 : decide (K1 < (0 : Int)) = true := by simp; omega
  by_cases hk2 : 0 ≤ fst noSave rs2 0
  ·obtain ⟨b2, o2, r, hA2, hb2, hrr, hrl, hrc⟩ := RulesAt.get (HRS.out _ (Below.refl _ _)) (i := ((fst noSave rs2 0)).toNat) (by omega)
   have hre := HRE.out r (List.mem_of_getElem? hrr)
   obtain ⟨hbas, _, hlet, _⟩ := ruleE_zero hre
   obtain ⟨_, _, _, _, _, hv1, hv2⟩ := (ruleBasic_iff _ _ _ _ _).1 hbas
   have hle12 : r.le.size ≤ 12 := by
    unfold letOk at hlet
    simp at hlet
    omega
   have hall : allLet r.le = true := by
    unfold letOk at hlet
    simp at hlet
    exact hlet.2
   have HO : Hid (offSv d x t = r.sv ∧ offLe d x t = r.le) := Lib.hid (off_some (by
    rw [HO0.out]
    obtain ⟨r', h1, h2⟩ := offRl_is (rs := rs2) (std := x.std) (t := t) (by rw [hkk]; exact hk2)
    rw [hkk, hrr] at h1
    injection h1 with h1
    rw [h2, h1]))
   obtain ⟨K2, hK2⟩ : ∃ v, v = fst noSave rs2 0 := ⟨_, rfl⟩
   rw [← hK2] at hk2 hR IA hrc
   have HRC := Lib.hid hrc
   have g3 : decide ((0 : Int) ≤ K2) = true := by simp; omega
   obtain ⟨hR1, hR2⟩ := hR
   rw [hl2] at hR2
   subst hA2
   obtain ⟨c0, c1⟩ := HC.out _ hbb
   clear hK1 hK2 hkk hrr hre hbas hlet hrl hrc hl2 hs hk
   go_enter Tryz.func111, Tryz.ntmps111
   go_wp2_with fail
   refine (LA.out _ hbb).mono ?_
   rintro e w2 ⟨rfl, h2⟩
   clear c0 c1
   go_wp2_with fail
   refine (IA.out _ h2).mono ?_
   rintro e w3 ⟨rfl, h3⟩
   obtain ⟨_, _, _, _, ⟨x0, x1, x2, x3⟩, _⟩ := HN.out _ h3
   obtain ⟨e0, e1, e2, e3, e4, e5, e6, e7, e8⟩ := HRC.out _ (h3.mono (by simp))
   go_wp2_with fail
   go_region
   go_wp2_with fail
   clear e0 e1 e2 e3 e4 e5 e6 e7 e8 x0 x1 x2 x3
   have hdr := (h3.drew).drew
   obtain ⟨_, _, hMd, _, ⟨x0, x1, x2, x3⟩, _⟩ := HN.out _ hdr
   have hwr : IntKind.i64.wrap (x.std + r.sv) = x.std + r.sv := wrap_small (by omega) (by omega)
   obtain ⟨AB, hAB⟩ : ∃ v, v = repl x.fmt r.le := ⟨_, rfl⟩
   have RP : Hid (Calls Tryz.prog 160 #[.string x.fmt, .string ⟨#[37, 115]⟩, .string r.le, .int .i64 1] (w3.drew).drew fun e w' => e = .returned (.string AB) ∧ Below (w.heap.size + 3) (((w.alloc (.cells #[.slice d.sA d.sn d.sc, .slice d.zA d.zn d.zc, .slice d.lA d.ln d.lc] 26)).alloc (.cells #[.int .i64 x.std, .int .i64 x.set, .int .i64 x.save, .string x.fmt, .int .i64 x.til] 125)).alloc (.cells #[.int .i64 0, .int .i64 0, .string ⟨#[]⟩] 46)) w') := Lib.hid (by
    rw [hAB]
    exact (replace_any x.fmt r.le _ hf12 hle12 hall hMd).mono fun _ _ h2 => ⟨h2.1, hdr.trans (h2.2.mono (by have := hdr.size; simp at this ⊢ <;> omega))⟩)
   have HAB := Lib.hid hAB
   clear hAB hMd
   go_region_held3 (fun w' => w'.cell? ⟨w.heap.size + 1, 0, none⟩ = some (.int .i64 x.std) ∧ w'.cell? ⟨w.heap.size + 1, 3, none⟩ = some (.string x.fmt))
    (refine ⟨?_, ?_⟩ <;> (first | assumption | go_keep))
    (first
     | (go_at_call 160; refine RP.out.mono ?_; rintro e w9 ⟨rfl, h9⟩; obtain ⟨_, _, _, _, ⟨y0, y1, y2, y3⟩, ⟨r0, r1, r2, f0, f1, f2⟩, _⟩ := HN.out _ h9; have H9 := Lib.hid h9; clear h9))
   go_wp2
   obtain ⟨hbw, _, _, _, _, _, k2⟩ := HN.out _ H9.out
   refine bodyPost_ret (results_cell_row rfl _ _ (w.heap.size + 1 + 1) 46 _ (0, 0) _ rfl (set_obj (set_obj (set_obj k2 _) _) _) Tryz.underlying46 rfl (by kernel_rfl)) rfl ⟨?_, ((hbw.setCell (by simp; omega) _).setCell (by simp; omega) _).setCell (by simp; omega) _⟩
   have e1 : offTo d x t = x.std + r.sv := by unfold offTo; rw [HO.out.1]
   have e2 : offAb d x t = AB := by unfold offAb; rw [HO.out.2, HAB.out]
   rw [e1, e2, HO.out.1]
   rfl
  ·have HO := Lib.hid (off_none (d := d) (x := x) (t := t) (by
    rw [HO0.out]
    exact offRl_no (by rw [hkk]; omega)))
   obtain ⟨K2, hK2⟩ : ∃ v, v = fst noSave rs2 0 := ⟨_, rfl⟩
   rw [← hK2] at hk2 IA
   have g3 : decide ((0 : Int) ≤ K2) = false := by simp; omega
   have hall := let_nil
   have hle12 : (ByteArray.mk #[]).size ≤ 12 := by decide
   obtain ⟨c0, c1⟩ := HC.out _ hbb
   clear hK1 hK2 hkk hl2 hs hk hR
   go_enter Tryz.func111, Tryz.ntmps111
   go_wp2_with fail
   refine (LA.out _ hbb).mono ?_
   rintro e w2 ⟨rfl, h2⟩
   clear c0 c1
   go_wp2_with fail
   refine (IA.out _ h2).mono ?_
   rintro e w3 ⟨rfl, h3⟩
   go_wp2_with fail
   have hdr := (h3).drew
   obtain ⟨_, _, hMd, _, ⟨x0, x1, x2, x3⟩, _⟩ := HN.out _ hdr
   have hwr : IntKind.i64.wrap (x.std + x.save) = x.std + x.save := wrap_small (by omega) (by omega)
   obtain ⟨AB, hAB⟩ : ∃ v, v = repl x.fmt ⟨#[]⟩ := ⟨_, rfl⟩
   have RP : Hid (Calls Tryz.prog 160 #[.string x.fmt, .string ⟨#[37, 115]⟩, .string ⟨#[]⟩, .int .i64 1] (w3).drew fun e w' => e = .returned (.string AB) ∧ Below (w.heap.size + 3) (((w.alloc (.cells #[.slice d.sA d.sn d.sc, .slice d.zA d.zn d.zc, .slice d.lA d.ln d.lc] 26)).alloc (.cells #[.int .i64 x.std, .int .i64 x.set, .int .i64 x.save, .string x.fmt, .int .i64 x.til] 125)).alloc (.cells #[.int .i64 0, .int .i64 0, .string ⟨#[]⟩] 46)) w') := Lib.hid (by
    rw [hAB]
    exact (replace_any x.fmt ⟨#[]⟩ _ hf12 hle12 hall hMd).mono fun _ _ h2 => ⟨h2.1, hdr.trans (h2.2.mono (by have := hdr.size; simp at this ⊢ <;> omega))⟩)
   have HAB := Lib.hid hAB
   clear hAB hMd
   go_region_held3 (fun w' => w'.cell? ⟨w.heap.size + 1, 0, none⟩ = some (.int .i64 x.std) ∧ w'.cell? ⟨w.heap.size + 1, 3, none⟩ = some (.string x.fmt))
    (refine ⟨?_, ?_⟩ <;> (first | assumption | go_keep))
    (first
     | (go_at_call 160; refine RP.out.mono ?_; rintro e w9 ⟨rfl, h9⟩; obtain ⟨_, _, _, _, ⟨y0, y1, y2, y3⟩, ⟨r0, r1, r2, f0, f1, f2⟩, _⟩ := HN.out _ h9; have H9 := Lib.hid h9; clear h9))
   go_wp2
   obtain ⟨hbw, _, _, _, _, _, k2⟩ := HN.out _ H9.out
   refine bodyPost_ret (results_cell_row rfl _ _ (w.heap.size + 1 + 1) 46 _ (0, 0) _ rfl (set_obj (set_obj (set_obj k2 _) _) _) Tryz.underlying46 rfl (by kernel_rfl)) rfl ⟨?_, ((hbw.setCell (by simp; omega) _).setCell (by simp; omega) _).setCell (by simp; omega) _⟩
   have e1 : offTo d x t = x.std + x.save := by unfold offTo; rw [HO.out.1]
   have e2 : offAb d x t = AB := by unfold offAb; rw [HO.out.2, HAB.out]
   rw [e1, e2, HO.out.1]
   rfl
end Go.Proofs.YtbbbeldbhlehnaaGreatDoor
end
section
namespace Gno
open Go
def eraOf (z : Zn) (t : Int) : Er := match z.es[(eraK z.es t).toNat]? with | some x => x | none => ⟨0, 0, 0, ⟨#[]⟩, 0⟩
noncomputable def oaE (d : Dt) (nm : ByteArray) (t : Int) : Int := if zoneEr d nm ≠ 0 then zoneEr d nm else if t < 0 ∨ 1893456000 ≤ t then 3 else 0
noncomputable def oaZ (d : Dt) (nm : ByteArray) : Zn := match d.zs[(zoneK d nm).toNat]? with | some z => z | none => ⟨⟨#[]⟩, none, 0, 0, []⟩
noncomputable def oaTo (d : Dt) (nm : ByteArray) (t : Int) : Int := if oaE d nm t = 0 then offTo d (eraOf (oaZ d nm) t) t else 0
noncomputable def oaSv (d : Dt) (nm : ByteArray) (t : Int) : Int := if oaE d nm t = 0 then offSv d (eraOf (oaZ d nm) t) t else 0
noncomputable def oaAb (d : Dt) (nm : ByteArray) (t : Int) : ByteArray := if oaE d nm t = 0 then offAb d (eraOf (oaZ d nm) t) t else ⟨#[]⟩
theorem at_good {d : Dt} {nm : ByteArray} {t : Int} (h : oaE d nm t = 0) {z : Zn} (hz : d.zs[(zoneK d nm).toNat]? = some z) : oaTo d nm t = offTo d (eraOf z t) t ∧ oaSv d nm t = offSv d (eraOf z t) t ∧ oaAb d nm t = offAb d (eraOf z t) t := by
 have e : oaZ d nm = z := by unfold oaZ; rw [hz]
 unfold oaTo oaSv oaAb
 rw [h, if_pos rfl, if_pos rfl, if_pos rfl, e]; exact ⟨rfl, rfl, rfl⟩
theorem eraOf_is {z : Zn} {t : Int} {x : Er} (h : z.es[(eraK z.es t).toNat]? = some x) : eraOf z t = x := by unfold eraOf; rw [h]
end Gno
namespace Go.Proofs.YtbbbeldbhlehnaaGreatDoor
open Go.RowKit Gno
theorem holds_any (d : Dt) (x : Er) (t : Int) (w : World) (hD : DataAt w w.heap.size d) (hM : MaxAt w w.heap.size) (hr : ∀ s ∈ d.ss, ∀ r ∈ s.rs, r.e = 0) (hx : (-50400 ≤ x.std ∧ x.std ≤ 50400) ∧ (-1 ≤ x.set ∧ x.set < d.sn) ∧ (0 ≤ x.save ∧ x.save ≤ 7200) ∧ (x.set < 0 ∨ x.save = 0)) (hf : fmtOk x.fmt = true) :
 Calls Tryz.prog 111 #[d.val, .agg #[.int .i64 x.std, .int .i64 x.set, .int .i64 x.save, .string x.fmt, .int .i64 x.til], .int .i64 t] w fun e w' => e = .returned (.agg #[.int .i64 (offTo d x t), .int .i64 (offSv d x t), .string (offAb d x t)]) ∧ Below w.heap.size w w' := by
 by_cases hs : x.set < 0
 ·exact holds_bare d x t w hD hM hr hx hf hs
 ·exact holds_set d x t w hD hM hr hx hf hs
theorem far3 {W : World} {B b o : Nat} (h : B ≠ b) (v0 v1 v2 : Value) : (((W.setCell ⟨B, 0, none⟩ v0).setCell ⟨B, 1, none⟩ v1).setCell ⟨B, 2, none⟩ v2).cell? ⟨b, o, none⟩ = W.cell? ⟨b, o, none⟩ := by
 rw [World.cell?_setCell_far _ _ _ _ h, World.cell?_setCell_far _ _ _ _ h, World.cell?_setCell_far _ _ _ _ h]
theorem ofHas_any (o : Nat) (t : Int) (x : Er) (w : World) (hc : w.cell? ⟨o, 0, none⟩ = some (.int .i64 t)) (ho : o < w.heap.size) :
 Calls Tryz.prog 110 #[.agg #[.int .i64 x.std, .int .i64 x.set, .int .i64 x.save, .string x.fmt, .int .i64 x.til], .pointer (some ⟨o, 0, none⟩)] w fun e w' => e = .returned (.bool (til t x)) ∧ Below w.heap.size w w' := by
 have hc2 : (w.alloc (.cells #[.int .i64 x.std, .int .i64 x.set, .int .i64 x.save, .string x.fmt, .int .i64 x.til] 125)).cell? ⟨o, 0, none⟩ = some (.int .i64 t) := (((Below.refl _ _).alloc (Nat.le_refl _) _).cell ho).trans hc
 go_enter Tryz.func110, Tryz.ntmps110
 go_wp2
 go_ret
 exact ⟨ret_bool rfl, (Below.refl _ _).alloc (Nat.le_refl _) _⟩
theorem of_next {d : Dt} {t : Int} {w W : World} (hD : DataAt w w.heap.size d) (hM : MaxAt w w.heap.size) (hb : Below (w.heap.size + 3) (((w.alloc (.cells #[.slice d.sA d.sn d.sc, .slice d.zA d.zn d.zc, .slice d.lA d.ln d.lc] 26)).alloc (.cells #[.int .i64 t] 3)).alloc (.cells #[.int .i64 0, .int .i64 0, .string ⟨#[]⟩] 46)) W) :
 Below w.heap.size w W ∧ DataAt W W.heap.size d ∧ MaxAt W W.heap.size ∧ (W.cell? ⟨w.heap.size, 0, none⟩ = some (.slice d.sA d.sn d.sc) ∧ W.cell? ⟨w.heap.size, 1, none⟩ = some (.slice d.zA d.zn d.zc) ∧ W.cell? ⟨w.heap.size, 2, none⟩ = some (.slice d.lA d.ln d.lc)) ∧ W.cell? ⟨w.heap.size + 1, 0, none⟩ = some (.int .i64 t) ∧ (W.cell? ⟨w.heap.size + 1 + 1, 0, none⟩ = some (.int .i64 0) ∧ W.cell? ⟨w.heap.size + 1 + 1, 1, none⟩ = some (.int .i64 0) ∧ W.cell? ⟨w.heap.size + 1 + 1, 2, none⟩ = some (.string ⟨#[]⟩) ∧ W.frozen? ⟨w.heap.size + 1 + 1, 0, none⟩ = false ∧ W.frozen? ⟨w.heap.size + 1 + 1, 1, none⟩ = false ∧ W.frozen? ⟨w.heap.size + 1 + 1, 2, none⟩ = false) ∧ W.heap[w.heap.size + 1 + 1]? = some (.cells #[.int .i64 0, .int .i64 0, .string ⟨#[]⟩] 46) := by
 have k0 : (((w.alloc (.cells #[.slice d.sA d.sn d.sc, .slice d.zA d.zn d.zc, .slice d.lA d.ln d.lc] 26)).alloc (.cells #[.int .i64 t] 3)).alloc (.cells #[.int .i64 0, .int .i64 0, .string ⟨#[]⟩] 46)).heap[w.heap.size]? = some (.cells #[.slice d.sA d.sn d.sc, .slice d.zA d.zn d.zc, .slice d.lA d.ln d.lc] 26) := by rw [push_past _ _ _ (by simp; omega), push_past _ _ _ (by simp), push_at _ _ _ rfl]
 have k1 : (((w.alloc (.cells #[.slice d.sA d.sn d.sc, .slice d.zA d.zn d.zc, .slice d.lA d.ln d.lc] 26)).alloc (.cells #[.int .i64 t] 3)).alloc (.cells #[.int .i64 0, .int .i64 0, .string ⟨#[]⟩] 46)).heap[w.heap.size + 1]? = some (.cells #[.int .i64 t] 3) := by rw [push_past _ _ _ (by simp), push_at _ _ _ (by simp)]
 have k2 : (((w.alloc (.cells #[.slice d.sA d.sn d.sc, .slice d.zA d.zn d.zc, .slice d.lA d.ln d.lc] 26)).alloc (.cells #[.int .i64 t] 3)).alloc (.cells #[.int .i64 0, .int .i64 0, .string ⟨#[]⟩] 46)).heap[w.heap.size + 1 + 1]? = some (.cells #[.int .i64 0, .int .i64 0, .string ⟨#[]⟩] 46) := push_at _ _ _ (by simp)
 have kb : Below w.heap.size w (((w.alloc (.cells #[.slice d.sA d.sn d.sc, .slice d.zA d.zn d.zc, .slice d.lA d.ln d.lc] 26)).alloc (.cells #[.int .i64 t] 3)).alloc (.cells #[.int .i64 0, .int .i64 0, .string ⟨#[]⟩] 46)) := ((((Below.refl w.heap.size w).alloc (Nat.le_refl _) _).alloc (by simp) _).alloc (by simp; omega) _)
 have k0 := (hb.block _ (by omega)).trans k0
 have k1 := (hb.block _ (by omega)).trans k1
 have k2 := (hb.block _ (by omega)).trans k2
 have hbw : Below w.heap.size w W := kb.trans (hb.mono (by omega))
 exact ⟨hbw, hD.next hbw, hM.next hbw, ⟨cell_of k0 rfl, cell_of k0 rfl, cell_of k0 rfl⟩, cell_of k1 rfl, ⟨cell_of k2 rfl, cell_of k2 rfl, cell_of k2 rfl, frozen_of k2, frozen_of k2, frozen_of k2⟩, k2⟩
set_option maxRecDepth 100000 in
set_option maxHeartbeats 4000000 in
theorem of_any (d : Dt) (zone t : Int) (z : Zn) (w : World) (hD : DataAt w w.heap.size d) (hM : MaxAt w w.heap.size) (hr : RightE d) (hz : d.zs[zone.toNat]? = some z) (hz0 : 0 ≤ zone) (ht : t < 1893456000) :
 Calls Tryz.prog 52 #[d.val, .int .i64 zone, .int .i64 t] w fun e w' => e = .returned (.agg #[.int .i64 (offTo d (eraOf z t) t), .int .i64 (offSv d (eraOf z t) t), .string (offAb d (eraOf z t) t)]) ∧ Below w.heap.size w w' := by
 obtain ⟨x, hx, hxm, hk0, hk1, hxt⟩ := hr.era (List.mem_of_getElem? hz) ht
 rw [eraOf_is hx]
 have hxo := eraOk_is (hr.eras z (List.mem_of_getElem? hz) _ x hx)
 have hfo := hr.fmts z (List.mem_of_getElem? hz) x hxm
 have hzl := (List.getElem?_eq_some_iff.1 hz).1
 have hzn := hD.2.1.1
 obtain ⟨b, o, q, hA, hbB, hq, hq1, hq2⟩ := zones_get hD.2.1 (i := zone.toNat) (by omega)
 rw [hz] at hq
 injection hq with hq
 subst hq
 obtain ⟨qn, A2, n2, cap2, es2⟩ := z
 replace hk0 : 0 ≤ eraK es2 t := hk0
 replace hk1 : eraK es2 t < es2.length := hk1
 have hE := (hq2 w (Below.refl _ _)).2
 have hEl : es2.length = n2 := hE.1
 have hkn : (eraK es2 t).toNat < n2 := hEl ▸ (Int.toNat_lt hk0).2 hk1
 obtain ⟨b2, o2, x', hA2, hb2, hx', hxf', hxc⟩ := eras_get hE (i := (eraK es2 t).toNat) hkn
 rw [show es2[(eraK es2 t).toNat]? = some x from hx] at hx'
 injection hx' with hx'
 subst hx'
 have HN := Lib.hid (fun W hb => of_next (d := d) (t := t) (w := w) (W := W) hD hM hb)
 have HC : Hid (∀ W, Below (w.heap.size + 3) (((w.alloc (.cells #[.slice d.sA d.sn d.sc, .slice d.zA d.zn d.zc, .slice d.lA d.ln d.lc] 26)).alloc (.cells #[.int .i64 t] 3)).alloc (.cells #[.int .i64 0, .int .i64 0, .string ⟨#[]⟩] 46)) W → (W.cell? ⟨w.heap.size, 0, none⟩ = some (.slice d.sA d.sn d.sc) ∧ W.cell? ⟨w.heap.size, 1, none⟩ = some (.slice (some ⟨b, o, none⟩) d.zn d.zc) ∧ W.cell? ⟨w.heap.size, 2, none⟩ = some (.slice d.lA d.ln d.lc)) ∧ W.cell? ⟨b, o + zone.toNat * 2 + 1, none⟩ = some (.slice A2 n2 cap2)) := Lib.hid (fun W h => by
  have h1 := HN.out W h
  exact ⟨⟨h1.2.2.2.1.1, hA ▸ h1.2.2.2.1.2.1, h1.2.2.2.1.2.2⟩, (hq2 W h1.1).1.2⟩)
 have HX : Hid (∀ W, Below (w.heap.size + 3) (((w.alloc (.cells #[.slice d.sA d.sn d.sc, .slice d.zA d.zn d.zc, .slice d.lA d.ln d.lc] 26)).alloc (.cells #[.int .i64 t] 3)).alloc (.cells #[.int .i64 0, .int .i64 0, .string ⟨#[]⟩] 46)) W → ErAt W b2 (o2 + (eraK es2 t).toNat * 5) x) := Lib.hid (fun W h => hxc W (HN.out W h).1)
 have IA : Hid (∀ W, Below (w.heap.size + 3) (((w.alloc (.cells #[.slice d.sA d.sn d.sc, .slice d.zA d.zn d.zc, .slice d.lA d.ln d.lc] 26)).alloc (.cells #[.int .i64 t] 3)).alloc (.cells #[.int .i64 0, .int .i64 0, .string ⟨#[]⟩] 46)) W → Calls Tryz.prog 109 #[.slice A2 n2 cap2, .func (.func 110) #[] #[.pointer (some ⟨w.heap.size + 1, 0, none⟩)]] W fun e w' => e = .returned (.int .i64 (eraK es2 t)) ∧ Below (w.heap.size + 3) (((w.alloc (.cells #[.slice d.sA d.sn d.sc, .slice d.zA d.zn d.zc, .slice d.lA d.ln d.lc] 26)).alloc (.cells #[.int .i64 t] 3)).alloc (.cells #[.int .i64 0, .int .i64 0, .string ⟨#[]⟩] 46)) w') := Lib.hid (fun W h =>
  (indexEra_any 110 #[.pointer (some ⟨w.heap.size + 1, 0, none⟩)] (enters_of Tryz.func110 (by kernel_rfl) rfl) (til t) A2 n2 cap2 es2 W (SlAt.below (B' := W.heap.size) keeps_er (hq2 W (HN.out W h).1).2 (Below.refl _ _) (by have := (HN.out W h).1.size; omega)) (fun W2 y _ hb =>
   ofHas_any (w.heap.size + 1) t y W2 ((hb.cell (p := ⟨w.heap.size + 1, 0, none⟩) (by have := h.size; simp at this ⊢; omega)).trans (HN.out W h).2.2.2.2.1) (by have := h.size; have := hb.size; simp at *; omega))).mono fun _ _ h2 => ⟨h2.1, h.trans (h2.2.mono (by have := h.size; simp at this ⊢ <;> omega))⟩)
 have HH : Hid (∀ W (A : Prop), (Below (w.heap.size + 3) (((w.alloc (.cells #[.slice d.sA d.sn d.sc, .slice d.zA d.zn d.zc, .slice d.lA d.ln d.lc] 26)).alloc (.cells #[.int .i64 t] 3)).alloc (.cells #[.int .i64 0, .int .i64 0, .string ⟨#[]⟩] 46)) W) → Calls Tryz.prog 111 #[.agg #[.slice d.sA d.sn d.sc, .slice (some ⟨b, o, none⟩) d.zn d.zc, .slice d.lA d.ln d.lc], .agg #[.int .i64 x.std, .int .i64 x.set, .int .i64 x.save, .string x.fmt, .int .i64 x.til], .int .i64 t] W fun e w' => e = .returned (.agg #[.int .i64 (offTo d x t), .int .i64 (offSv d x t), .string (offAb d x t)]) ∧ Below (w.heap.size + 3) (((w.alloc (.cells #[.slice d.sA d.sn d.sc, .slice d.zA d.zn d.zc, .slice d.lA d.ln d.lc] 26)).alloc (.cells #[.int .i64 t] 3)).alloc (.cells #[.int .i64 0, .int .i64 0, .string ⟨#[]⟩] 46)) w') := Lib.hid (fun W A h => by
  have h1 := HN.out W h
  have h2 := holds_any d x t W h1.2.1 h1.2.2.1 hr.rules ⟨hxo.1, hxo.2.1, hxo.2.2.1, hxo.2.2.2.1⟩ hfo
  unfold Dt.val at h2
  rw [hA] at h2
  exact h2.mono fun _ _ h3 => ⟨h3.1, h.trans (h3.2.mono (by have := h.size; simp at this ⊢ <;> omega))⟩)
 have hn2 : n2 ≤ 9223372036854775807 := hE.2.1
 have hmf : ∀ (fn : Fn) (first cap : Array Value) (w : World), (Instr.makeFunc fn first cap).run Tryz.prog w = .ok (.func fn first cap) w := fun _ _ _ _ => rfl
 obtain ⟨K, hK⟩ : ∃ v, v = eraK es2 t := ⟨_, rfl⟩
 obtain ⟨TT, hTT⟩ : ∃ v, v = offTo d x t := ⟨_, rfl⟩
 obtain ⟨SS, hSS⟩ : ∃ v, v = offSv d x t := ⟨_, rfl⟩
 obtain ⟨AB, hAB⟩ : ∃ v, v = offAb d x t := ⟨_, rfl⟩
 rw [← hK] at hk0 hk1 IA HX
 rw [← hTT, ← hSS, ← hAB] at HH
 rw [← hTT, ← hSS, ← hAB]
 rw [hEl] at hk1
 have hzb : zone < (d.zn : Int) := by omega
 have hbne : w.heap.size + 1 + 1 ≠ b2 := by omega
 have hbb := Below.refl (w.heap.size + 3) (((w.alloc (.cells #[.slice d.sA d.sn d.sc, .slice d.zA d.zn d.zc, .slice d.lA d.ln d.lc] 26)).alloc (.cells #[.int .i64 t] 3)).alloc (.cells #[.int .i64 0, .int .i64 0, .string ⟨#[]⟩] 46))
 unfold Dt.val
 subst hA2
 obtain ⟨⟨c0, c1, c2⟩, c3⟩ := HC.out _ hbb
 clear hK hTT hSS hAB hD hM hr hz hx hxm hxt hxo hfo hzl hzn hA hbB hq1 hq2 hE hEl hb2 hxf' hxc ht hkn
 go_enter Tryz.func52, Tryz.ntmps52
 go_wp2_with fail
 refine (IA.out _ hbb).mono ?_
 rintro e w3 ⟨rfl, h3⟩
 clear c0 c1 c2 c3
 have hdr := h3.drew
 have HDR := Lib.hid hdr
 clear hbb
 go_wp2_with fail
 obtain ⟨_, _, _, _, t0, _⟩ := HN.out _ hdr
 obtain ⟨x0, x1, x2, x3, x4⟩ := HX.out _ hdr
 obtain ⟨⟨c0, c1, c2⟩, c3⟩ := HC.out _ hdr
 clear hdr c3
 go_region_held3 (fun w' => (w'.cell? ⟨w.heap.size, 0, none⟩ = some (.slice d.sA d.sn d.sc) ∧ w'.cell? ⟨w.heap.size, 1, none⟩ = some (.slice (some ⟨b, o, none⟩) d.zn d.zc) ∧ w'.cell? ⟨w.heap.size, 2, none⟩ = some (.slice d.lA d.ln d.lc)) ∧ w'.cell? ⟨w.heap.size + 1, 0, none⟩ = some (.int .i64 t) ∧ w'.cell? ⟨b2, o2 + K.toNat * 5, none⟩ = some (.int .i64 x.std) ∧ w'.cell? ⟨b2, o2 + K.toNat * 5 + 1, none⟩ = some (.int .i64 x.set) ∧ w'.cell? ⟨b2, o2 + K.toNat * 5 + 2, none⟩ = some (.int .i64 x.save) ∧ w'.cell? ⟨b2, o2 + K.toNat * 5 + 3, none⟩ = some (.string x.fmt) ∧ w'.cell? ⟨b2, o2 + K.toNat * 5 + 4, none⟩ = some (.int .i64 x.til))
  (refine ⟨⟨?_, ?_, ?_⟩, ?_, ?_, ?_, ?_, ?_, ?_⟩ <;> (first | (rw [far3 (by first | exact hbne | omega)]; assumption) | assumption | go_keep))
  (first
   | (go_at_call 111; refine (HH.out _ True HDR.out).mono ?_; rintro e w9 ⟨rfl, h9⟩; clear c0 c1 c2 t0 x0 x1 x2 x3 x4; obtain ⟨_, _, _, _, t1, ⟨r0, r1, r2, f0, f1, f2⟩, _⟩ := HN.out _ h9; obtain ⟨y0, y1, y2, y3, y4⟩ := HX.out _ h9; obtain ⟨⟨d0, d1, d2⟩, _⟩ := HC.out _ h9; have H9 := Lib.hid h9; clear h9))
 go_wp2
 obtain ⟨hbw, _, _, _, _, _, k2⟩ := HN.out _ H9.out
 refine bodyPost_ret (results_cell_row rfl _ _ (w.heap.size + 1 + 1) 46 _ (0, 0) _ rfl (set_obj (set_obj (set_obj k2 _) _) _) Tryz.underlying46 rfl (by kernel_rfl)) rfl ⟨?_, ((hbw.setCell (by simp; omega) _).setCell (by simp; omega) _).setCell (by simp; omega) _⟩
 rfl
end Go.Proofs.YtbbbeldbhlehnaaGreatDoor
end
section
namespace Go.Proofs.YtbbbeldbhlehnaaGreatDoor
open Go.RowKit Gno
theorem at_next {d : Dt} {w W : World} (hD : DataAt w w.heap.size d) (hM : MaxAt w w.heap.size) (hb : Below (w.heap.size + 2) ((w.alloc (.cells #[.slice d.sA d.sn d.sc, .slice d.zA d.zn d.zc, .slice d.lA d.ln d.lc] 26)).alloc (.cells #[.int .i64 0, .int .i64 0, .string ⟨#[]⟩] 46)) W) :
 Below w.heap.size w W ∧ DataAt W W.heap.size d ∧ MaxAt W W.heap.size ∧ (W.cell? ⟨w.heap.size, 0, none⟩ = some (.slice d.sA d.sn d.sc) ∧ W.cell? ⟨w.heap.size, 1, none⟩ = some (.slice d.zA d.zn d.zc) ∧ W.cell? ⟨w.heap.size, 2, none⟩ = some (.slice d.lA d.ln d.lc)) ∧ (W.cell? ⟨w.heap.size + 1, 0, none⟩ = some (.int .i64 0) ∧ W.cell? ⟨w.heap.size + 1, 1, none⟩ = some (.int .i64 0) ∧ W.cell? ⟨w.heap.size + 1, 2, none⟩ = some (.string ⟨#[]⟩) ∧ W.frozen? ⟨w.heap.size + 1, 0, none⟩ = false ∧ W.frozen? ⟨w.heap.size + 1, 1, none⟩ = false ∧ W.frozen? ⟨w.heap.size + 1, 2, none⟩ = false) ∧ W.heap[w.heap.size + 1]? = some (.cells #[.int .i64 0, .int .i64 0, .string ⟨#[]⟩] 46) := by
 have k0 : ((w.alloc (.cells #[.slice d.sA d.sn d.sc, .slice d.zA d.zn d.zc, .slice d.lA d.ln d.lc] 26)).alloc (.cells #[.int .i64 0, .int .i64 0, .string ⟨#[]⟩] 46)).heap[w.heap.size]? = some (.cells #[.slice d.sA d.sn d.sc, .slice d.zA d.zn d.zc, .slice d.lA d.ln d.lc] 26) := by rw [push_past _ _ _ (by simp), push_at _ _ _ rfl]
 have k2 : ((w.alloc (.cells #[.slice d.sA d.sn d.sc, .slice d.zA d.zn d.zc, .slice d.lA d.ln d.lc] 26)).alloc (.cells #[.int .i64 0, .int .i64 0, .string ⟨#[]⟩] 46)).heap[w.heap.size + 1]? = some (.cells #[.int .i64 0, .int .i64 0, .string ⟨#[]⟩] 46) := push_at _ _ _ (by simp)
 have kb : Below w.heap.size w ((w.alloc (.cells #[.slice d.sA d.sn d.sc, .slice d.zA d.zn d.zc, .slice d.lA d.ln d.lc] 26)).alloc (.cells #[.int .i64 0, .int .i64 0, .string ⟨#[]⟩] 46)) := (((Below.refl w.heap.size w).alloc (Nat.le_refl _) _).alloc (by simp) _)
 have k0 := (hb.block _ (by omega)).trans k0
 have k2 := (hb.block _ (by omega)).trans k2
 have hbw : Below w.heap.size w W := kb.trans (hb.mono (by omega))
 exact ⟨hbw, hD.next hbw, hM.next hbw, ⟨cell_of k0 rfl, cell_of k0 rfl, cell_of k0 rfl⟩, ⟨cell_of k2 rfl, cell_of k2 rfl, cell_of k2 rfl, frozen_of k2, frozen_of k2, frozen_of k2⟩, k2⟩
end Go.Proofs.YtbbbeldbhlehnaaGreatDoor
end
section
namespace Gno
open Go
def sCEDT : ByteArray := ⟨#[67, 69, 68, 84]⟩
def sCEST : ByteArray := ⟨#[67, 69, 83, 84]⟩
theorem eu_set {k : Nat} {x : Er} {t : Int} {r : Rl} {i : Int} (hs : x.set = 0) (hk : (latest springs x.std t).1 = i) (h0 : 0 ≤ i) (hr : springs[i.toNat]? = some r) : offSv (euD k (-1) sOld) x t = r.sv ∧ offLe (euD k (-1) sOld) x t = r.le := by
 refine off_some ?_
 rw [offR_set (s := ⟨sEu, some ⟨k + 1, 0, none⟩, 2, 2, springs⟩) (by omega) (by rw [hs]; rfl)]
 unfold offRl
 have : offK springs x.std t = i := by unfold offK; rw [hk, if_pos h0]
 rw [this, if_neg (by omega)]
 exact hr
end Gno
end
section
namespace Gno
open Go
theorem offR_mem {d : Dt} {x : Er} {t : Int} {r : Rl} (h : offR d x t = some r) : ∃ s ∈ d.ss, r ∈ s.rs := by
 unfold offR at h
 split at h
 ·cases h
 ·cases hs : d.ss[x.set.toNat]? with
  | none => rw [hs] at h; cases h
  | some s => rw [hs] at h; exact ⟨s, List.mem_of_getElem? hs, offRl_mem h⟩
theorem off_bd {d : Dt} (hr : RightE d) {x : Er} (hx : 0 ≤ x.save ∧ x.save ≤ 7200) (t : Int) : (0 ≤ offSv d x t ∧ offSv d x t ≤ 7200) ∧ (offLe d x t).size ≤ 12 := by
 cases h : offR d x t with
 | none =>
   rw [(off_none h).1, (off_none h).2]
   exact ⟨hx, by decide⟩
 | some r =>
   obtain ⟨s, hs, hm⟩ := offR_mem h
   obtain ⟨hb, _, hl, _⟩ := ruleE_zero (hr.rules s hs r hm)
   obtain ⟨_, _, _, _, _, hv1, hv2⟩ := (ruleBasic_iff _ _ _ _ _).1 hb
   rw [(off_some h).1, (off_some h).2]
   unfold letOk at hl
   simp at hl
   exact ⟨⟨hv1, hv2⟩, hl.1⟩
structure OkAt (d : Dt) (nm : ByteArray) (t : Int) (z : Zn) (x : Er) : Prop where
 data : dataE d = 0
 zone : zoneEr d nm = 0
 le : 0 ≤ zoneK d nm
 lt : zoneK d nm < d.zs.length
 time : 0 ≤ t ∧ t < 1893456000
 hz : d.zs[(zoneK d nm).toNat]? = some z
 hx : ∃ i : Nat, z.es[i]? = some x ∧ i < z.es.length
 era : eraOf z t = x
 tot : oaTo d nm t = offTo d x t
 sv : oaSv d nm t = offSv d x t
 ab : oaAb d nm t = offAb d x t
 again : oaE d z.name t = 0 ∧ oaTo d z.name t = oaTo d nm t ∧ oaSv d z.name t = oaSv d nm t ∧ oaAb d z.name t = oaAb d nm t
 bd : (-50400 ≤ x.std ∧ x.std ≤ 50400) ∧ (0 ≤ offSv d x t ∧ offSv d x t ≤ 7200) ∧ (offAb d x t).size ≤ 24
end Gno
end
section
namespace Gno
open Go
def leL : List Rl → ByteArray
 | [] => ⟨#[]⟩
 | r :: t => if noSave r = true then r.le else leL t
theorem leL_at {rs : List Rl} {i : Nat} {r : Rl} (h : rs[i]? = some r) : (noSave r = true → leL (rs.drop i) = r.le) ∧ (noSave r = false → leL (rs.drop i) = leL (rs.drop (i + 1))) := by
 have hi := (List.getElem?_eq_some_iff.1 h).1
 have e : rs.drop i = r :: rs.drop (i + 1) := by
  rw [List.drop_eq_getElem_cons hi]
  rw [List.getElem?_eq_getElem hi] at h
  injection h with h
  rw [h]
 rw [e]
 exact ⟨fun q => by unfold leL; rw [if_pos q], fun q => by rw [show leL (r :: rs.drop (i + 1)) = if noSave r = true then r.le else leL (rs.drop (i + 1)) from rfl, if_neg (by simp [q])]⟩
theorem leL_end {rs : List Rl} {i : Nat} (h : i = rs.length) : leL (rs.drop i) = ⟨#[]⟩ := by rw [h, List.drop_length]; rfl
theorem leL_fst : ∀ (l : List Rl) (k : Int), 0 ≤ k → (fst noSave l k < 0 ∧ leL l = ⟨#[]⟩) ∨ (0 ≤ fst noSave l k ∧ ∃ r, l[(fst noSave l k - k).toNat]? = some r ∧ noSave r = true ∧ leL l = r.le)
 | [], k, hk => .inl ⟨by simp [fst], rfl⟩
 | a :: t, k, hk => by
   by_cases ha : noSave a = true
   ·have e1 : fst noSave (a :: t) k = k := by show (if noSave a = true then k else fst noSave t (k + 1)) = k; rw [if_pos ha]
    rw [e1]
    exact .inr ⟨hk, a, by simp, ha, by unfold leL; rw [if_pos ha]⟩
   ·have e1 : fst noSave (a :: t) k = fst noSave t (k + 1) := by show (if noSave a = true then k else fst noSave t (k + 1)) = _; rw [if_neg ha]
    have e2 : leL (a :: t) = leL t := by show (if noSave a = true then a.le else leL t) = _; rw [if_neg ha]
    rw [e1, e2]
    rcases leL_fst t (k + 1) (by omega) with h | ⟨h, r, h1, h2, h3⟩
    ·exact .inl h
    ·have hr : k + 1 ≤ fst noSave t (k + 1) := by rcases fst_range noSave t (k + 1) (by omega) with e | e <;> omega
     exact .inr ⟨h, r, by rw [show (fst noSave t (k + 1) - k).toNat = (fst noSave t (k + 1) - (k + 1)).toNat + 1 by omega, List.getElem?_cons_succ]; exact h1, h2, h3⟩
theorem off_begun {d : Dt} {x : Er} {t : Int} {s : St} (h : ¬ x.set < 0) (hs : d.ss[x.set.toNat]? = some s) (hl : lastB (latest s.rs x.std t) = true) :
 0 ≤ lastR (latest s.rs x.std t) ∧ lastR (latest s.rs x.std t) < s.rs.length ∧ ∃ r, s.rs[(lastR (latest s.rs x.std t)).toNat]? = some r ∧ offSv d x t = r.sv ∧ offLe d x t = r.le := by
 have h0 : 0 ≤ (latest s.rs x.std t).1 := by unfold lastB at hl; simpa using hl
 have hkk : offK s.rs x.std t = (latest s.rs x.std t).1 := by unfold offK; rw [if_pos h0]
 have hlr : lastR (latest s.rs x.std t) = (latest s.rs x.std t).1 := by unfold lastR; rw [if_pos h0]
 have hR := offK_range s.rs x.std t
 rw [hkk] at hR
 obtain ⟨r, h1, h2⟩ := offRl_is (rs := s.rs) (std := x.std) (t := t) (by rw [hkk]; exact h0)
 rw [hkk] at h1
 rw [hlr]
 have := off_some (d := d) (x := x) (t := t) (r := r) (by rw [offR_set h hs]; exact h2)
 exact ⟨h0, hR.2, r, h1, this.1, this.2⟩
theorem off_none_begun {d : Dt} {x : Er} {t : Int} {s : St} (h : ¬ x.set < 0) (hs : d.ss[x.set.toNat]? = some s) (hl : lastB (latest s.rs x.std t) = false) (hx : x.save = 0) :
 offSv d x t = x.save ∧ offLe d x t = leL s.rs := by
 have h0 : ¬ 0 ≤ (latest s.rs x.std t).1 := by unfold lastB at hl; simpa using hl
 have hkk : offK s.rs x.std t = fst noSave s.rs 0 := by unfold offK; rw [if_neg h0]
 rcases leL_fst s.rs 0 (by omega) with ⟨q1, q2⟩ | ⟨q1, r, q2, q3, q4⟩
 ·have := off_none (d := d) (x := x) (t := t) (by rw [offR_set h hs]; exact offRl_no (by rw [hkk]; exact q1))
  rw [q2]; exact this
 ·obtain ⟨r', h1, h2⟩ := offRl_is (rs := s.rs) (std := x.std) (t := t) (by rw [hkk]; exact q1)
  rw [hkk] at h1
  rw [show fst noSave s.rs 0 - 0 = fst noSave s.rs 0 by omega, h1] at q2
  injection q2 with q2
  subst q2
  have := off_some (d := d) (x := x) (t := t) (r := r') (by rw [offR_set h hs]; exact h2)
  unfold noSave at q3
  have q3 : r'.sv = 0 := by simpa using q3
  rw [this.1, this.2, q4, hx, q3]; exact ⟨rfl, rfl⟩
end Gno
end
section
namespace Go.Proofs.YtbbbeldbhlehnaaGreatDoor
open Go.RowKit Gno
theorem le12 {r : Rl} (hre : r.e = 0) : r.le.size ≤ 12 := by
 obtain ⟨_, _, hlet, _⟩ := ruleE_zero hre
 unfold letOk at hlet
 simp at hlet
 omega
set_option maxRecDepth 100000 in
set_option maxHeartbeats 4000000 in
theorem holdsRef_any (d : Dt) (zone t : Int) (z : Zn) (w : World) (hD : DataAt w w.heap.size d) (hM : MaxAt w w.heap.size) (hr : RightE d) (hz : d.zs[zone.toNat]? = some z) (hz0 : 0 ≤ zone) (ht : t < 1893456000) :
 Calls Tryz.prog 76 #[d.val, .int .i64 zone, .int .i64 t] w fun e w' => e = .returned (.agg #[.int .i64 (offTo d (eraOf z t) t), .int .i64 (offSv d (eraOf z t) t), .string (offAb d (eraOf z t) t)]) ∧ Below w.heap.size w w' := by
 obtain ⟨x, hx, hxm, hk0, hk1, hxt⟩ := hr.era (List.mem_of_getElem? hz) ht
 rw [eraOf_is hx]
 have hxo := eraOk_is (hr.eras z (List.mem_of_getElem? hz) _ x hx)
 have hfo := hr.fmts z (List.mem_of_getElem? hz) x hxm
 have hf12 : x.fmt.size ≤ 12 := by
  unfold fmtOk at hfo
  simp at hfo
  omega
 have hzl := (List.getElem?_eq_some_iff.1 hz).1
 have hzn := hD.2.1.1
 obtain ⟨b, o, q, hA, hbB, hq, hq1, hq2⟩ := zones_get hD.2.1 (i := zone.toNat) (by omega)
 rw [hz] at hq
 injection hq with hq
 subst hq
 obtain ⟨qn, A2, n2, cap2, es2⟩ := z
 replace hk0 : 0 ≤ eraK es2 t := hk0
 replace hk1 : eraK es2 t < es2.length := hk1
 have hE := (hq2 w (Below.refl _ _)).2
 have hEl : es2.length = n2 := hE.1
 have hkn : (eraK es2 t).toNat < n2 := hEl ▸ (Int.toNat_lt hk0).2 hk1
 obtain ⟨b2, o2, x', hA2, hb2, hx', hxf', hxc⟩ := eras_get hE (i := (eraK es2 t).toNat) hkn
 rw [show es2[(eraK es2 t).toNat]? = some x from hx] at hx'
 injection hx' with hx'
 subst hx'
 have hA2' : A2 = some ⟨b2, o2, none⟩ := hA2
 clear hA2
 subst hA2'
 have HN := Lib.hid (fun W hb => at_next (d := d) (w := w) (W := W) hD hM hb)
 have HC : Hid (∀ W, Below (w.heap.size + 2) ((w.alloc (.cells #[.slice d.sA d.sn d.sc, .slice d.zA d.zn d.zc, .slice d.lA d.ln d.lc] 26)).alloc (.cells #[.int .i64 0, .int .i64 0, .string ⟨#[]⟩] 46)) W → W.cell? ⟨w.heap.size, 0, none⟩ = some (.slice d.sA d.sn d.sc) ∧ W.cell? ⟨w.heap.size, 1, none⟩ = some (.slice (some ⟨b, o, none⟩) d.zn d.zc) ∧ W.cell? ⟨b, o + zone.toNat * 2 + 1, none⟩ = some (.slice (some ⟨b2, o2, none⟩) n2 cap2)) := Lib.hid (fun W h => by
  have h1 := HN.out W h
  exact ⟨h1.2.2.2.1.1, hA ▸ h1.2.2.2.1.2.1, (hq2 W h1.1).1.2⟩)
 have HX : Hid (∀ W, Below (w.heap.size + 2) ((w.alloc (.cells #[.slice d.sA d.sn d.sc, .slice d.zA d.zn d.zc, .slice d.lA d.ln d.lc] 26)).alloc (.cells #[.int .i64 0, .int .i64 0, .string ⟨#[]⟩] 46)) W → ErAt W b2 (o2 + (eraK es2 t).toNat * 5) x) := Lib.hid (fun W h => hxc W (HN.out W h).1)
 have HER : Hid (∀ j, j < n2 → ∃ y, es2[j]? = some y ∧ ∀ W, Below (w.heap.size + 2) ((w.alloc (.cells #[.slice d.sA d.sn d.sc, .slice d.zA d.zn d.zc, .slice d.lA d.ln d.lc] 26)).alloc (.cells #[.int .i64 0, .int .i64 0, .string ⟨#[]⟩] 46)) W → W.cell? ⟨b2, o2 + j * 5 + 4, none⟩ = some (.int .i64 y.til)) := Lib.hid (fun j hj => by
  obtain ⟨b3, o3, y, hA3, _, hy, _, hc⟩ := eras_get hE hj
  injection hA3 with hA3
  injection hA3 with e1 e2 _
  subst e1
  subst e2
  exact ⟨y, hy, fun W h => (hc W (HN.out W h).1).2.2.2.2⟩)
 have HDR := Lib.hid hr.rules
 have HSET : Hid (¬ x.set < 0 → ∃ b5 o5 s, d.sA = some ⟨b5, o5, none⟩ ∧ d.ss[x.set.toNat]? = some s ∧ x.set < d.sn ∧ ∀ W, Below (w.heap.size + 2) ((w.alloc (.cells #[.slice d.sA d.sn d.sc, .slice d.zA d.zn d.zc, .slice d.lA d.ln d.lc] 26)).alloc (.cells #[.int .i64 0, .int .i64 0, .string ⟨#[]⟩] 46)) W → W.cell? ⟨b5, o5 + x.set.toNat * 2 + 1, none⟩ = some (.slice s.A s.n s.cap) ∧ RulesAt W W.heap.size s.A s.n s.rs) := Lib.hid (fun hs => by
  have := hxo.2.1
  obtain ⟨b5, o5, s, e1, e2, e3, e4, e5⟩ := sets_get hD.1 (i := x.set.toNat) (by omega)
  exact ⟨b5, o5, s, e1, e3, this.2, fun W h => by
   have h1 := (HN.out W h).1
   exact ⟨(e5 W h1).1.2, ((e5 W h1).2).more (by have := h1.size; omega)⟩⟩)
 have MKC := Lib.hid (fun W => mark_any x.fmt W (by omega))
 have hn2 : n2 ≤ 9223372036854775807 := hE.2.1
 have HK : Hid (fst (til t) (es2.drop 0) ((0 : Nat) : Int) = eraK es2 t) := Lib.hid (by rw [List.drop_zero]; rfl)
 obtain ⟨KI, hK⟩ : ∃ v, v = eraK es2 t := ⟨_, rfl⟩
 obtain ⟨K, hKN⟩ : ∃ v : Nat, (v : Int) = KI := ⟨KI.toNat, by omega⟩
 rw [← hK] at hk0 hk1 HX HK
 subst hKN
 replace HX : Hid (∀ W, Below (w.heap.size + 2) ((w.alloc (.cells #[.slice d.sA d.sn d.sc, .slice d.zA d.zn d.zc, .slice d.lA d.ln d.lc] 26)).alloc (.cells #[.int .i64 0, .int .i64 0, .string ⟨#[]⟩] 46)) W → ErAt W b2 (o2 + K * 5) x) := by simpa using HX
 have HL := Lib.hid hEl
 have hzb : zone < (d.zn : Int) := by omega
 have hkb : K < n2 := by omega
 obtain ⟨⟨s1, s2⟩, ⟨s3, s4⟩, ⟨s5, s6⟩, s7, _⟩ := hxo
 have hxx : x.set < 0 ∨ x.save = 0 := s7
 have HXX := Lib.hid hxx
 have gx : decide (x.til ≤ t) = false := by simp; omega
 clear hxx s7 hD hM hr hz hx hxm hfo hzl hzn hA hbB hq1 hq2 hE hEl hb2 hxf' hxc ht hkn hK hk0 hk1 hxt s3
 unfold Dt.val
 have hbb : Below (w.heap.size + 2) ((w.alloc (.cells #[.slice d.sA d.sn d.sc, .slice d.zA d.zn d.zc, .slice d.lA d.ln d.lc] 26)).alloc (.cells #[.int .i64 0, .int .i64 0, .string ⟨#[]⟩] 46)) ((w.alloc (.cells #[.slice d.sA d.sn d.sc, .slice d.zA d.zn d.zc, .slice d.lA d.ln d.lc] 26)).alloc (.cells #[.int .i64 0, .int .i64 0, .string ⟨#[]⟩] 46)) := Below.refl _ _
 obtain ⟨c0, c1, c2⟩ := HC.out _ hbb
 go_enter Tryz.func76, Tryz.ntmps76
 go_wp2_with fail
 go_loopw [8] (fun b8 wr => ∃ j : Nat, j ≤ K ∧ b8 = .int .i64 j ∧ Hid (fst (til t) (es2.drop j) (j : Int) = K) ∧ Hid (Below (w.heap.size + 2) ((w.alloc (.cells #[.slice d.sA d.sn d.sc, .slice d.zA d.zn d.zc, .slice d.lA d.ln d.lc] 26)).alloc (.cells #[.int .i64 0, .int .i64 0, .string ⟨#[]⟩] 46)) wr)) (fun b8 _ => n2 - (intOf b8).toNat)
 case atStart => exact ⟨0, Nat.zero_le _, rfl, HK, Lib.hid hbb⟩
 case round =>
  clear c0 c1 c2 hbb
  obtain ⟨j, hj, rfl, hfj, hb⟩ := hrel
  have hjn : j < n2 := by omega
  obtain ⟨y, hy, hyc⟩ := HER.out j hjn
  have e0 := hyc _ hb.out
  have HD := Lib.hid (fst_drop (p := til t) hy)
  have HY := Lib.hid hy
  clear hyc hy
  by_cases hq : y.til ≤ t
  ·have g1 : decide (y.til ≤ t) = true := by simpa using hq
   have HJ : Hid (fst (til t) (es2.drop (j + 1)) ((j + 1 : Nat) : Int) = K) := Lib.hid (by rw [← HD.out.2 (by unfold til; simp; omega)]; exact hfj.out)
   have hjk : j + 1 ≤ K := by
    rcases fst_range (til t) (es2.drop (j + 1)) ((j + 1 : Nat) : Int) (by omega) with e | e
    ·rw [HJ.out] at e; omega
    ·rw [HJ.out] at e; omega
   clear hfj hq
   go_wp2
   go_roundw
   case rel => exact ⟨j + 1, hjk, by go_num, HJ, hb⟩
   case measure => simp [intOf]; omega
  ·have g1 : decide (y.til ≤ t) = false := by simpa using hq
   have hjK : j = K := by
    have := HD.out.1 (by unfold til; simp; omega)
    rw [hfj.out] at this
    omega
   subst hjK
   clear hq hfj HD HY HER HK g1
   obtain ⟨wo, hwo⟩ : ∃ wo : World, wo = wr := ⟨_, rfl⟩
   rw [← hwo] at hb e0
   rw [← hwo]
   clear hwo
   obtain ⟨x0, x1, x2, x3, x4⟩ := HX.out _ hb.out
   clear e0
   have HP : Hid (∀ W, Below (wo.alloc (.cells #[.int .i64 x.std, .int .i64 x.set, .int .i64 x.save, .string x.fmt, .int .i64 x.til] 125)).heap.size (wo.alloc (.cells #[.int .i64 x.std, .int .i64 x.set, .int .i64 x.save, .string x.fmt, .int .i64 x.til] 125)) W → Below (w.heap.size + 2) ((w.alloc (.cells #[.slice d.sA d.sn d.sc, .slice d.zA d.zn d.zc, .slice d.lA d.ln d.lc] 26)).alloc (.cells #[.int .i64 0, .int .i64 0, .string ⟨#[]⟩] 46)) W ∧ (W.cell? ⟨wo.heap.size, 0, none⟩ = some (.int .i64 x.std) ∧ W.cell? ⟨wo.heap.size, 1, none⟩ = some (.int .i64 x.set) ∧ W.cell? ⟨wo.heap.size, 2, none⟩ = some (.int .i64 x.save) ∧ W.cell? ⟨wo.heap.size, 3, none⟩ = some (.string x.fmt)) ∧ (W.cell? ⟨w.heap.size + 1, 0, none⟩ = some (.int .i64 0) ∧ W.cell? ⟨w.heap.size + 1, 1, none⟩ = some (.int .i64 0) ∧ W.cell? ⟨w.heap.size + 1, 2, none⟩ = some (.string ⟨#[]⟩) ∧ W.frozen? ⟨w.heap.size + 1, 0, none⟩ = false ∧ W.frozen? ⟨w.heap.size + 1, 1, none⟩ = false ∧ W.frozen? ⟨w.heap.size + 1, 2, none⟩ = false) ∧ W.heap[w.heap.size + 1]? = some (.cells #[.int .i64 0, .int .i64 0, .string ⟨#[]⟩] 46) ∧ Below w.heap.size w W) := Lib.hid (fun W h => by
    have k := (h.block wo.heap.size (by simp)).trans (World.alloc_heap_new wo (.cells #[.int .i64 x.std, .int .i64 x.set, .int .i64 x.save, .string x.fmt, .int .i64 x.til] 125))
    have hz : Below (w.heap.size + 2) ((w.alloc (.cells #[.slice d.sA d.sn d.sc, .slice d.zA d.zn d.zc, .slice d.lA d.ln d.lc] 26)).alloc (.cells #[.int .i64 0, .int .i64 0, .string ⟨#[]⟩] 46)) (wo.alloc (.cells #[.int .i64 x.std, .int .i64 x.set, .int .i64 x.save, .string x.fmt, .int .i64 x.til] 125)) := Below.alloc hb.out (by have := hb.out.size; simpa using this) _
    have h0 : Below (w.heap.size + 2) ((w.alloc (.cells #[.slice d.sA d.sn d.sc, .slice d.zA d.zn d.zc, .slice d.lA d.ln d.lc] 26)).alloc (.cells #[.int .i64 0, .int .i64 0, .string ⟨#[]⟩] 46)) W := hz.trans (h.mono (by have := hz.size; simpa using this))
    have hN := HN.out W h0
    exact ⟨h0, ⟨cell_of k rfl, cell_of k rfl, cell_of k rfl, cell_of k rfl⟩, hN.2.2.2.2.1, hN.2.2.2.2.2, hN.1⟩)
   have hxx := HXX.out
   by_cases hs : x.set < 0
   ·have HO := Lib.hid (off_none (offR_none (d := d) (t := t) hs))
    have gs : decide ((0 : Int) ≤ x.set) = false := by simp; omega
    have hwr : IntKind.i64.wrap (x.std + x.save) = x.std + x.save := wrap_small (by omega) (by omega)
    go_wp2_with fail
    have HH : Hid (Below (wo.alloc (.cells #[.int .i64 x.std, .int .i64 x.set, .int .i64 x.save, .string x.fmt, .int .i64 x.til] 125)).heap.size (wo.alloc (.cells #[.int .i64 x.std, .int .i64 x.set, .int .i64 x.save, .string x.fmt, .int .i64 x.til] 125)) (wo.alloc (.cells #[.int .i64 x.std, .int .i64 x.set, .int .i64 x.save, .string x.fmt, .int .i64 x.til] 125))) := Lib.hid (Below.refl _ _)
    refine (MKC.out _).mono ?_
    rintro e w8 ⟨rfl, h8⟩
    try clear q0 q1 q2 q3
    have h9 := HH.out.trans (h8.mono HH.out.size)
    obtain ⟨_, ⟨q0, q1, q2, q3⟩, _⟩ := HP.out _ h9
    have HW8 := Lib.hid h9
    clear h9 h8 HH
    rcases mark_cases x.fmt with hk | ⟨i, hk, hi⟩
    ·have HR : Hid (repl x.fmt ⟨#[]⟩ = x.fmt) := Lib.hid (by unfold repl; rw [hk]; rfl)
     have gm : decide ((0 : Int) ≤ markN x.fmt) = false := by rw [hk]; rfl
     obtain ⟨MM, hMM⟩ : ∃ v, v = markN x.fmt := ⟨_, rfl⟩
     rw [← hMM] at gm
     rw [← hMM]
     clear hMM hk
     obtain ⟨_, _, ⟨r0, r1, r2, f0, f1, f2⟩, _⟩ := HP.out _ HW8.out
     go_wp2
     obtain ⟨_, _, _, k2, hbw⟩ := HP.out _ HW8.out
     refine bodyPost_ret (results_cell_row rfl _ _ (w.heap.size + 1) 46 _ (0, 0) _ rfl (set_obj (set_obj (set_obj k2 _) _) _) Tryz.underlying46 rfl (by kernel_rfl)) rfl ⟨?_, ((hbw.setCell (by simp) _).setCell (by simp) _).setCell (by simp) _⟩
     have e1 : offTo d x t = x.std + x.save := by unfold offTo; rw [HO.out.1]
     have e2 : offAb d x t = x.fmt := by unfold offAb; rw [HO.out.2, HR.out]
     rw [e1, e2, HO.out.1]
     rfl
    ·have HR : Hid (repl x.fmt ⟨#[]⟩ = x.fmt.extract 0 i ++ ⟨#[]⟩ ++ x.fmt.extract (i + 2) x.fmt.size) := Lib.hid (by
      unfold repl; rw [hk, if_neg (by omega), Int.toNat_natCast])
     rw [hk]
     clear hk
     have hq1 : (x.fmt.extract 0 i).size + (⟨#[]⟩ : ByteArray).size ≤ 9223372036854775807 := by have hnil : (⟨#[]⟩ : ByteArray).size = 0 := rfl; simp only [ByteArray.size_extract]; omega
     have hq2 : (x.fmt.extract 0 i ++ ⟨#[]⟩).size + (x.fmt.extract (i + 2) x.fmt.size).size ≤ 9223372036854775807 := by have hnil : (⟨#[]⟩ : ByteArray).size = 0 := rfl; simp only [ByteArray.size_append, ByteArray.size_extract]; omega
     go_wp2_with fail
     go_region
     obtain ⟨_, ⟨q0, q1, q2, q3⟩, ⟨r0, r1, r2, f0, f1, f2⟩, _⟩ := HP.out _ HW8.out.drew
     go_wp2
     obtain ⟨_, _, _, k2, hbw⟩ := HP.out _ HW8.out.drew
     refine bodyPost_ret (results_cell_row rfl _ _ (w.heap.size + 1) 46 _ (0, 0) _ rfl (set_obj (set_obj (set_obj k2 _) _) _) Tryz.underlying46 rfl (by kernel_rfl)) rfl ⟨?_, ((hbw.setCell (by simp) _).setCell (by simp) _).setCell (by simp) _⟩
     have e1 : offTo d x t = x.std + x.save := by unfold offTo; rw [HO.out.1]
     have e2 : offAb d x t = x.fmt.extract 0 i ++ ⟨#[]⟩ ++ x.fmt.extract (i + 2) x.fmt.size := by unfold offAb; rw [HO.out.2, HR.out]
     rw [e1, e2, HO.out.1]
     rfl
   ·have gs : decide ((0 : Int) ≤ x.set) = true := by simp; omega
    obtain ⟨b5, o5, ⟨qn5, A6, n6, cap6, rs6⟩, hA5, hs5, hsb, hsc⟩ := HSET.out (by omega)
    have HRS : Hid (∀ W, Below (w.heap.size + 2) ((w.alloc (.cells #[.slice d.sA d.sn d.sc, .slice d.zA d.zn d.zc, .slice d.lA d.ln d.lc] 26)).alloc (.cells #[.int .i64 0, .int .i64 0, .string ⟨#[]⟩] 46)) W → RulesAt W W.heap.size A6 n6 rs6) := Lib.hid (fun W h => (hsc W h).2)
    have hl6 : rs6.length = n6 := (HRS.out _ hb.out).1
    have hn6 : n6 ≤ 9223372036854775807 := (HRS.out _ hb.out).2.1
    have HRE : Hid (∀ r ∈ rs6, r.e = 0) := Lib.hid (HDR.out _ (List.mem_of_getElem? hs5))
    have hs0 : 0 ≤ x.set := by omega
    have LAC : Hid (∀ W, Below (w.heap.size + 2) ((w.alloc (.cells #[.slice d.sA d.sn d.sc, .slice d.zA d.zn d.zc, .slice d.lA d.ln d.lc] 26)).alloc (.cells #[.int .i64 0, .int .i64 0, .string ⟨#[]⟩] 46)) W → Calls Tryz.prog 153 #[.slice A6 n6 cap6, .int .i64 x.std, .int .i64 t] W fun e w' => e = .returned (.tuple #[.int .i64 (lastR (latest rs6 x.std t)), .int .i64 (lastW (latest rs6 x.std t)), .bool (lastB (latest rs6 x.std t))]) ∧ Below W.heap.size W w') := Lib.hid (fun W h => last_any A6 n6 cap6 rs6 x.std t W (HRS.out W h) HRE.out s1 s2)
    have HV1 : Hid (Below (w.heap.size + 2) ((w.alloc (.cells #[.slice d.sA d.sn d.sc, .slice d.zA d.zn d.zc, .slice d.lA d.ln d.lc] 26)).alloc (.cells #[.int .i64 0, .int .i64 0, .string ⟨#[]⟩] 46)) (wo.alloc (.cells #[.int .i64 x.std, .int .i64 x.set, .int .i64 x.save, .string x.fmt, .int .i64 x.til] 125))) := Lib.hid (HP.out _ (Below.refl _ _)).1
    have g5 := (hsc _ HV1.out).1
    obtain ⟨c0, c1, c2⟩ := HC.out _ HV1.out
    rw [hA5] at c0
    cases hlb : lastB (latest rs6 x.std t)
    ·have HO := Lib.hid (off_none_begun hs hs5 hlb (by omega))
     have hwr : IntKind.i64.wrap (x.std + x.save) = x.std + x.save := wrap_small (by omega) (by omega)
     rw [hlb] at LAC
     obtain ⟨LR, hLR⟩ : ∃ v, v = lastR (latest rs6 x.std t) := ⟨_, rfl⟩
     obtain ⟨LW, hLW⟩ : ∃ v, v = lastW (latest rs6 x.std t) := ⟨_, rfl⟩
     rw [← hLR, ← hLW] at LAC
     clear hLR hLW hlb hs5 hsc hA5
     go_wp2_with fail
     clear x0 x1 x2 x3 x4 c0 c1 c2 g5
     refine (LAC.out _ HV1.out).mono ?_
     rintro e w6 ⟨rfl, h6⟩
     have H6 := Lib.hid h6
     obtain ⟨_, ⟨q0, q1, q2, q3⟩, _⟩ := HP.out _ h6
     clear h6
     go_wp2_with fail
     go_loopw [11, 16] (fun b11 b16 wr => ∃ (i : Int) (L : ByteArray), -1 ≤ i ∧ i < n6 ∧ b16 = .int .i64 i ∧ b11 = .string L ∧ L.size ≤ 12 ∧ Hid (L = leL (rs6.drop (i + 1).toNat)) ∧ Hid (Below (wo.alloc (.cells #[.int .i64 x.std, .int .i64 x.set, .int .i64 x.save, .string x.fmt, .int .i64 x.til] 125)).heap.size (wo.alloc (.cells #[.int .i64 x.std, .int .i64 x.set, .int .i64 x.save, .string x.fmt, .int .i64 x.til] 125)) wr)) (fun _ b16 _ => (intOf b16 + 1).toNat)
     case atStart => exact ⟨(n6 : Int) - 1, ⟨#[]⟩, by omega, by omega, by go_num, rfl, by decide, Lib.hid (by rw [leL_end]; omega), H6⟩
     case round =>
      clear q0 q1 q2 q3
      obtain ⟨i, L, hi1, hi2, rfl, rfl, hLs, hL, hbr⟩ := hrel
      by_cases hi0 : 0 ≤ i
      ·obtain ⟨m, hm⟩ : ∃ m : Nat, (m : Int) = i := ⟨i.toNat, by omega⟩
       subst hm
       have hmn : m < n6 := by omega
       obtain ⟨b7, o7, r, hA7, _, hr7, _, hrc⟩ := RulesAt.get (HRS.out _ (HP.out _ hbr.out).1) (i := m) hmn
       obtain ⟨_, _, _, _, _, _, _, e7, e8⟩ := hrc _ (Below.refl _ _)
       have HLA := Lib.hid (leL_at hr7)
       have hr12 := le12 (HRE.out r (List.mem_of_getElem? hr7))
       subst hA7
       clear hrc hr7
       by_cases hq : r.sv = 0
       ·have gq : (r.sv == 0) = true := by simpa using hq
        have HX2 : Hid (r.le = leL (rs6.drop ((m : Int) - 1 + 1).toNat)) := Lib.hid (by rw [show ((m : Int) - 1 + 1).toNat = m by omega]; exact (HLA.out.1 (by unfold noSave; exact gq)).symm)
        clear hq HLA hL
        go_wp2
        go_roundw
        case rel => exact ⟨(m : Int) - 1, r.le, by omega, by omega, by go_num, rfl, hr12, HX2, hbr⟩
        case measure => simp [intOf]
       ·have gq : (r.sv == 0) = false := by simpa using hq
        have HX2 : Hid (L = leL (rs6.drop ((m : Int) - 1 + 1).toNat)) := Lib.hid (by rw [show ((m : Int) - 1 + 1).toNat = m by omega, (HLA.out.2 (by unfold noSave; exact gq)), hL.out]; congr 2)
        clear hq HLA hL
        go_wp2
        go_roundw
        case rel => exact ⟨(m : Int) - 1, L, by omega, by omega, by go_num, rfl, hLs, HX2, hbr⟩
        case measure => simp [intOf]
      ·have hi3 : i = -1 := by omega
       subst hi3
       obtain ⟨_, ⟨q0, q1, q2, q3⟩, _⟩ := HP.out _ hbr.out
       have HO2 : Hid (offSv d x t = x.save ∧ offLe d x t = L) := Lib.hid ⟨HO.out.1, HO.out.2.trans (by rw [hL.out]; rfl)⟩
       clear HO
       have HO := HO2
       clear HO2 hL
       have HH := hbr
       go_wp2_with fail
       refine (MKC.out _).mono ?_
       rintro e w8 ⟨rfl, h8⟩
       try clear q0 q1 q2 q3
       have h9 := HH.out.trans (h8.mono HH.out.size)
       obtain ⟨_, ⟨q0, q1, q2, q3⟩, _⟩ := HP.out _ h9
       have HW8 := Lib.hid h9
       clear h9 h8 HH
       rcases mark_cases x.fmt with hk | ⟨i, hk, hi⟩
       ·have HR : Hid (repl x.fmt L = x.fmt) := Lib.hid (by unfold repl; rw [hk]; rfl)
        have gm : decide ((0 : Int) ≤ markN x.fmt) = false := by rw [hk]; rfl
        obtain ⟨MM, hMM⟩ : ∃ v, v = markN x.fmt := ⟨_, rfl⟩
        rw [← hMM] at gm
        rw [← hMM]
        clear hMM hk
        obtain ⟨_, _, ⟨r0, r1, r2, f0, f1, f2⟩, _⟩ := HP.out _ HW8.out
        go_wp2
        obtain ⟨_, _, _, k2, hbw⟩ := HP.out _ HW8.out
        refine bodyPost_ret (results_cell_row rfl _ _ (w.heap.size + 1) 46 _ (0, 0) _ rfl (set_obj (set_obj (set_obj k2 _) _) _) Tryz.underlying46 rfl (by kernel_rfl)) rfl ⟨?_, ((hbw.setCell (by simp) _).setCell (by simp) _).setCell (by simp) _⟩
        have e1 : offTo d x t = x.std + x.save := by unfold offTo; rw [HO.out.1]
        have e2 : offAb d x t = x.fmt := by unfold offAb; rw [HO.out.2, HR.out]
        rw [e1, e2, HO.out.1]
        rfl
       ·have HR : Hid (repl x.fmt L = x.fmt.extract 0 i ++ L ++ x.fmt.extract (i + 2) x.fmt.size) := Lib.hid (by
         unfold repl; rw [hk, if_neg (by omega), Int.toNat_natCast])
        rw [hk]
        clear hk
        have hq1 : (x.fmt.extract 0 i).size + (L : ByteArray).size ≤ 9223372036854775807 := by have hnil : (⟨#[]⟩ : ByteArray).size = 0 := rfl; simp only [ByteArray.size_extract]; omega
        have hq2 : (x.fmt.extract 0 i ++ L).size + (x.fmt.extract (i + 2) x.fmt.size).size ≤ 9223372036854775807 := by have hnil : (⟨#[]⟩ : ByteArray).size = 0 := rfl; simp only [ByteArray.size_append, ByteArray.size_extract]; omega
        go_wp2_with fail
        go_region
        obtain ⟨_, ⟨q0, q1, q2, q3⟩, ⟨r0, r1, r2, f0, f1, f2⟩, _⟩ := HP.out _ HW8.out.drew
        go_wp2
        obtain ⟨_, _, _, k2, hbw⟩ := HP.out _ HW8.out.drew
        refine bodyPost_ret (results_cell_row rfl _ _ (w.heap.size + 1) 46 _ (0, 0) _ rfl (set_obj (set_obj (set_obj k2 _) _) _) Tryz.underlying46 rfl (by kernel_rfl)) rfl ⟨?_, ((hbw.setCell (by simp) _).setCell (by simp) _).setCell (by simp) _⟩
        have e1 : offTo d x t = x.std + x.save := by unfold offTo; rw [HO.out.1]
        have e2 : offAb d x t = x.fmt.extract 0 i ++ L ++ x.fmt.extract (i + 2) x.fmt.size := by unfold offAb; rw [HO.out.2, HR.out]
        rw [e1, e2, HO.out.1]
        rfl
    ·obtain ⟨hr0, hr1, r, hrr, hsv, hle⟩ := off_begun hs hs5 hlb
     replace hr0 : 0 ≤ lastR (latest rs6 x.std t) := hr0
     replace hr1 : lastR (latest rs6 x.std t) < rs6.length := hr1
     replace hrr : rs6[(lastR (latest rs6 x.std t)).toNat]? = some r := hrr
     have HO := Lib.hid (And.intro hsv hle)
     have hre := HRE.out r (List.mem_of_getElem? hrr)
     have hr12 := le12 hre
     obtain ⟨hbas, _, hlet, _⟩ := ruleE_zero hre
     obtain ⟨_, _, _, _, _, hv1, hv2⟩ := (ruleBasic_iff _ _ _ _ _).1 hbas
     have hwr : IntKind.i64.wrap (x.std + r.sv) = x.std + r.sv := wrap_small (by omega) (by omega)
     rw [hlb] at LAC
     obtain ⟨b7, o7, r', hA7, _, hr7, _, hrc⟩ := RulesAt.get (HRS.out _ HV1.out) (i := (lastR (latest rs6 x.std t)).toNat) (by omega)
     rw [hrr] at hr7
     injection hr7 with hr7
     subst hr7
     obtain ⟨LR, hLR⟩ : ∃ v, v = lastR (latest rs6 x.std t) := ⟨_, rfl⟩
     obtain ⟨LW, hLW⟩ : ∃ v, v = lastW (latest rs6 x.std t) := ⟨_, rfl⟩
     rw [← hLR, ← hLW] at LAC
     rw [← hLR] at hr0 hr1 hrc
     have HRC := Lib.hid hrc
     subst hA7
     rw [hl6] at hr1
     clear hLR hLW hlb hs5 hsc hA5 hrr hsv hle hre hbas hlet hrc
     go_wp2_with fail
     clear x0 x1 x2 x3 x4 c0 c1 c2 g5
     refine (LAC.out _ HV1.out).mono ?_
     rintro e w6 ⟨rfl, h6⟩
     have H6 := Lib.hid h6
     obtain ⟨_, _, _, _, _, _, _, e7, e8⟩ := HRC.out _ h6
     clear h6
     go_wp2_with fail
     go_region
     go_wp2_with fail
     clear e7 e8
     go_loopw [11, 16] (fun b11 b16 wr => b16 = .int .i64 ((n6 : Int) - 1) ∧ b11 = .string r.le ∧ Hid (Below (wo.alloc (.cells #[.int .i64 x.std, .int .i64 x.set, .int .i64 x.save, .string x.fmt, .int .i64 x.til] 125)).heap.size (wo.alloc (.cells #[.int .i64 x.std, .int .i64 x.set, .int .i64 x.save, .string x.fmt, .int .i64 x.til] 125)) wr)) (fun _ _ _ => 0)
     case atStart => exact ⟨by go_num, rfl, Lib.hid H6.out.drew⟩
     case round =>
      obtain ⟨rfl, rfl, hbr⟩ := hrel
      obtain ⟨_, ⟨q0, q1, q2, q3⟩, _⟩ := HP.out _ hbr.out
      have HH := hbr
      by_cases hn0 : 0 ≤ (n6 : Int) - 1
      ·have gn0 : decide ((0 : Int) ≤ (n6 : Int) - 1) = true := by simpa using hn0
       go_wp2_with fail
       refine (MKC.out _).mono ?_
       rintro e w8 ⟨rfl, h8⟩
       try clear q0 q1 q2 q3
       have h9 := HH.out.trans (h8.mono HH.out.size)
       obtain ⟨_, ⟨q0, q1, q2, q3⟩, _⟩ := HP.out _ h9
       have HW8 := Lib.hid h9
       clear h9 h8 HH
       rcases mark_cases x.fmt with hk | ⟨i, hk, hi⟩
       ·have HR : Hid (repl x.fmt r.le = x.fmt) := Lib.hid (by unfold repl; rw [hk]; rfl)
        have gm : decide ((0 : Int) ≤ markN x.fmt) = false := by rw [hk]; rfl
        obtain ⟨MM, hMM⟩ : ∃ v, v = markN x.fmt := ⟨_, rfl⟩
        rw [← hMM] at gm
        rw [← hMM]
        clear hMM hk
        obtain ⟨_, _, ⟨r0, r1, r2, f0, f1, f2⟩, _⟩ := HP.out _ HW8.out
        go_wp2
        obtain ⟨_, _, _, k2, hbw⟩ := HP.out _ HW8.out
        refine bodyPost_ret (results_cell_row rfl _ _ (w.heap.size + 1) 46 _ (0, 0) _ rfl (set_obj (set_obj (set_obj k2 _) _) _) Tryz.underlying46 rfl (by kernel_rfl)) rfl ⟨?_, ((hbw.setCell (by simp) _).setCell (by simp) _).setCell (by simp) _⟩
        have e1 : offTo d x t = x.std + r.sv := by unfold offTo; rw [HO.out.1]
        have e2 : offAb d x t = x.fmt := by unfold offAb; rw [HO.out.2, HR.out]
        rw [e1, e2, HO.out.1]
        rfl
       ·have HR : Hid (repl x.fmt r.le = x.fmt.extract 0 i ++ r.le ++ x.fmt.extract (i + 2) x.fmt.size) := Lib.hid (by
         unfold repl; rw [hk, if_neg (by omega), Int.toNat_natCast])
        rw [hk]
        clear hk
        have hq1 : (x.fmt.extract 0 i).size + (r.le : ByteArray).size ≤ 9223372036854775807 := by have hnil : (⟨#[]⟩ : ByteArray).size = 0 := rfl; simp only [ByteArray.size_extract]; omega
        have hq2 : (x.fmt.extract 0 i ++ r.le).size + (x.fmt.extract (i + 2) x.fmt.size).size ≤ 9223372036854775807 := by have hnil : (⟨#[]⟩ : ByteArray).size = 0 := rfl; simp only [ByteArray.size_append, ByteArray.size_extract]; omega
        go_wp2_with fail
        go_region
        obtain ⟨_, ⟨q0, q1, q2, q3⟩, ⟨r0, r1, r2, f0, f1, f2⟩, _⟩ := HP.out _ HW8.out.drew
        go_wp2
        obtain ⟨_, _, _, k2, hbw⟩ := HP.out _ HW8.out.drew
        refine bodyPost_ret (results_cell_row rfl _ _ (w.heap.size + 1) 46 _ (0, 0) _ rfl (set_obj (set_obj (set_obj k2 _) _) _) Tryz.underlying46 rfl (by kernel_rfl)) rfl ⟨?_, ((hbw.setCell (by simp) _).setCell (by simp) _).setCell (by simp) _⟩
        have e1 : offTo d x t = x.std + r.sv := by unfold offTo; rw [HO.out.1]
        have e2 : offAb d x t = x.fmt.extract 0 i ++ r.le ++ x.fmt.extract (i + 2) x.fmt.size := by unfold offAb; rw [HO.out.2, HR.out]
        rw [e1, e2, HO.out.1]
        rfl
      ·exfalso; omega
end Go.Proofs.YtbbbeldbhlehnaaGreatDoor
end
