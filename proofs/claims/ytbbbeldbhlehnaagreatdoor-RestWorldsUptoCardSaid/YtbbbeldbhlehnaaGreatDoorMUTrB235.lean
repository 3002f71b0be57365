/- The walk of BackTells. -/
import Derived.Deep.QuietTactic
import Derived.Test.YtbbbeldbhlehnaaGreatDoorMUTrB233
import Derived.Test.YtbbbeldbhlehnaaGreatDoorMUTrB223
import Derived.Test.YtbbbeldbhlehnaaGreatDoorMUTrB234
import Derived.Test.YtbbbeldbhlehnaaGreatDoorMUTrB226
import Derived.Test.YtbbbeldbhlehnaaGreatDoorMUTrB231
set_option linter.unusedSimpArgs false
set_option linter.unusedVariables false
section
namespace Gno
open Go Go.RowKit Go.Proofs.YtbbbeldbhlehnaaGreatDoor
theorem wdsL_len {x : Wd} {loc : ByteArray} {t p : Int} (h : wdsE x loc t p = 0) : (wdsL x loc t p).length = x.d.zs.length := by
 unfold wdsL; rw [if_neg (by simp [h]), List.length_map]
theorem wdsL_at {x : Wd} {loc : ByteArray} {t p : Int} (h : wdsE x loc t p = 0) {i : Nat} {z : Zn} (hz : x.d.zs[i]? = some z) : (wdsL x loc t p)[i]? = some (calledZ x (bookN x.bs loc) z t p) := by
 unfold wdsL; rw [if_neg (by simp [h]), List.getElem?_map, hz]; rfl
theorem words_right {x : Wd} (loc : ByteArray) (t p : Int) (hzn : x.d.zs.length = x.d.zn) : wordsE (wdsL x loc t p) = 0 := by
 by_cases h : wdsE x loc t p = 0
 ·obtain ⟨hp, h0, h1⟩ := wdsE_zero h
  have hR := (preE_zero hp).1
  have hf := data_few hR.data
  have hl := wdsL_len h
  have hb : (wdsL x loc t p).any wordBad = false := by
   rw [List.any_eq_false]
   intro s hs
   unfold wdsL at hs
   rw [if_neg (by simp [h])] at hs
   obtain ⟨z, hz, rfl⟩ := List.mem_map.1 hs
   have := called_size hR (k := bookN x.bs loc) hz h1 (p := p)
   unfold wordBad
   rw [decide_eq_false (show ¬ (calledZ x (bookN x.bs loc) z t p).size = 0 by omega), decide_eq_false (show ¬ 12 < (calledZ x (bookN x.bs loc) z t p).size by omega)]
   decide
  unfold wordsE
  rw [if_neg (by omega), if_neg (by simp [hb])]
 ·rw [wdsL_bad h]; rfl
noncomputable def prsM (x : Wd) (loc s : ByteArray) (t p : Int) : Nat := lgN (buildL (bsL (wdsL x loc t p))) (bs s) s.size
noncomputable def prsK (x : Wd) (loc s : ByteArray) (t p : Int) : Int := lgK (buildL (bsL (wdsL x loc t p))) (bs s) s.size
noncomputable def prsN (x : Wd) (loc s : ByteArray) (t p : Int) : Nat := if wdsE x loc t p ≠ 0 then 0 else prsM x loc s t p
noncomputable def prsB (x : Wd) (loc s : ByteArray) (t p : Int) : ByteArray := s.extract 0 (prsM x loc s t p)
noncomputable def prsHas (x : Wd) (loc s : ByteArray) (t p : Int) (z : Zn) : Bool := same (calledZ x (bookN x.bs loc) z t p) (prsB x loc s t p)
noncomputable def prsUp (x : Wd) (loc s : ByteArray) (t p : Int) (i : Nat) : List ByteArray := ((x.d.zs.take i).filter (prsHas x loc s t p)).map (·.name)
noncomputable def prsL (x : Wd) (loc s : ByteArray) (t p : Int) : List ByteArray := if wdsE x loc t p ≠ 0 then [] else sortB (prsUp x loc s t p x.d.zs.length)
theorem prsUp_step {x : Wd} {loc s : ByteArray} {t p : Int} {i : Nat} {z : Zn} (h : x.d.zs[i]? = some z) : prsUp x loc s t p (i + 1) = if same (calledZ x (bookN x.bs loc) z t p) (prsB x loc s t p) = true then prsUp x loc s t p i ++ [z.name] else prsUp x loc s t p i := by
 unfold prsUp
 rw [filt_step h]
 show List.map _ (if same (calledZ x (bookN x.bs loc) z t p) (prsB x loc s t p) = true then _ else _) = _
 split
 ·rw [List.map_append]; rfl
 ·rfl
theorem prsUp_len {x : Wd} {loc s : ByteArray} {t p : Int} (i : Nat) : (prsUp x loc s t p i).length ≤ i := by
 unfold prsUp
 rw [List.length_map]
 refine Nat.le_trans (List.length_filter_le _ _) ?_
 rw [List.length_take]; omega
theorem prsL_is {x : Wd} {loc s : ByteArray} {t p : Int} (h : wdsE x loc t p = 0) : prsL x loc s t p = sortB (prsUp x loc s t p x.d.zs.length) ∧ prsN x loc s t p = prsM x loc s t p := by
 unfold prsL prsN; rw [if_neg (by simp [h]), if_neg (by simp [h])]; exact ⟨rfl, rfl⟩
theorem prsL_bad {x : Wd} {loc s : ByteArray} {t p : Int} (h : wdsE x loc t p ≠ 0) : prsL x loc s t p = [] ∧ prsN x loc s t p = 0 := by
 unfold prsL prsN; rw [if_pos h, if_pos h]; exact ⟨rfl, rfl⟩
theorem prsK_range {x : Wd} {loc s : ByteArray} {t p : Int} (h : wdsE x loc t p = 0) : -1 ≤ prsK x loc s t p ∧ prsK x loc s t p < x.d.zs.length := by
 have := lgK_lt (wdsL x loc t p) s
 rw [wdsL_len h] at this
 exact this
theorem prsK_word {x : Wd} {loc s : ByteArray} {t p : Int} (h : 0 ≤ prsK x loc s t p) : (wdsL x loc t p)[(prsK x loc s t p).toNat]? = some (prsB x loc s t p) := lgK_word h
theorem prsK_no {x : Wd} {loc s : ByteArray} {t p : Int} (hzn : x.d.zs.length = x.d.zn) (hE : wdsE x loc t p = 0) (h : prsK x loc s t p < 0) {z : Zn} (hz : z ∈ x.d.zs) : same (calledZ x (bookN x.bs loc) z t p) (prsB x loc s t p) = false := by
 obtain ⟨hp, h0, h1⟩ := wdsE_zero hE
 have hc := called_size (preE_zero hp).1 (k := bookN x.bs loc) hz h1 (p := p)
 have hn := (lgK_neg (words_right loc t p hzn) s).1 h
 unfold prsB prsM
 rw [hn]
 unfold same
 refine beq_eq_false_iff_ne.2 fun e => ?_
 have h2 := Lib.toList_data (calledZ x (bookN x.bs loc) z t p)
 rw [e] at h2
 have h3 : (calledZ x (bookN x.bs loc) z t p).data.toList.length = 0 := by rw [← h2]; simp
 have h4 : (calledZ x (bookN x.bs loc) z t p).size = 0 := h3
 omega
end Gno
end
section
namespace Gno
open Go Go.RowKit Go.Proofs.YtbbbeldbhlehnaaGreatDoor
theorem spring_bk : (latest springs 3600 600000000) = (1, 594176400) := by
 rw [springs, latest2]
 have e1 : sA.top 3600 600000000 = some 575427600 := spring_top 3 7200 (by omega) (by omega) 3600 600000000 1988 (by omega) (by omega) (by decide) (fun _ => by decide)
 have e2 : sB.top 3600 600000000 = some 594176400 := spring_top 10 7200 (by omega) (by omega) 3600 600000000 1988 (by omega) (by omega) (by decide) (fun _ => by decide)
 rw [e1, e2]
 rfl
theorem g_sv2 (k : Nat) : offSv (euD k (-1) sOld) (eraOf (gZ0 k) 600000000) 600000000 = 0 := by
 rw [show eraOf (gZ0 k) 600000000 = ⟨3600, 0, 0, sCEsT, 1893456000⟩ from by kernel_rfl]
 exact (eu_set (k := k) (x := ⟨3600, 0, 0, sCEsT, 1893456000⟩) (t := 600000000) (r := sB) (i := 1) rfl (by rw [show (latest springs 3600 600000000) = _ from spring_bk]) (by omega) rfl).1
theorem g_to2 (k : Nat) : offTo (euD k (-1) sOld) (eraOf (gZ1 k) 600000000) 600000000 = -14400 := by
 rw [show eraOf (gZ1 k) 600000000 = ⟨-18000, -1, 3600, sXT, 1893456000⟩ from by kernel_rfl]
 unfold offTo
 rw [(off_none (offR_none (d := euD k (-1) sOld) (x := ⟨-18000, -1, 3600, sXT, 1893456000⟩) (t := 600000000) (by decide))).1]
 rfl
theorem g_off2 (k : Nat) : offS (euD k (-1) sOld) (gZ1 k) 600000000 = tGMTm4 := by
 unfold offS offN
 rw [g_to2]
 kernel_rfl
theorem gb_bk (s : Nat) : bookN (shelfB s (-1)) sRoot = 0 := by kernel_rfl
theorem gb_c0 (e u s : Nat) : calledZ (gX e u s) (bookN (gX e u s).bs sRoot) (gZ0 e) 600000000 3 = sMST := by
 rw [show bookN (gX e u s).bs sRoot = 0 from gb_bk s]
 rw [called_name rfl, byName_yes (key := sMidS) (show (metaU (gX e u s).us (gZ0 e).name 600000000).size ≠ 0 from by rw [show metaU (gX e u s).us (gZ0 e).name 600000000 = sMid from by kernel_rfl]; decide) (by rw [show (gX e u s).d = euD e (-1) sOld from rfl, g_sv2]; kernel_rfl)]
 kernel_rfl
theorem gb_c1 (e u s : Nat) : calledZ (gX e u s) (bookN (gX e u s).bs sRoot) (gZ1 e) 600000000 3 = tGMTm4 := by
 rw [show bookN (gX e u s).bs sRoot = 0 from gb_bk s]
 rw [called_name rfl, byName_no (by kernel_rfl)]
 exact g_off2 e
theorem gb_e (e u s : Nat) : wdsE (gX e u s) sRoot 600000000 3 = 0 := by
 have := g_pre (e := e) (u := u) (p := 3) (gb_bk s) (by omega) (by omega)
 unfold wdsE
 rw [if_neg (by simp [this]), if_neg (by omega)]
theorem gb_l (e u s : Nat) : wdsL (gX e u s) sRoot 600000000 3 = [sMST, tGMTm4] := by
 unfold wdsL
 rw [if_neg (by simp [gb_e])]
 show [calledZ (gX e u s) (bookN (gX e u s).bs sRoot) (gZ0 e) 600000000 3, calledZ (gX e u s) (bookN (gX e u s).bs sRoot) (gZ1 e) 600000000 3] = _
 rw [gb_c0, gb_c1]
def tMSTx : ByteArray := ⟨#[77, 83, 84, 120]⟩
def tx : ByteArray := ⟨#[120]⟩
theorem gb_n1 (e u s : Nat) : prsM (gX e u s) sRoot tMSTx 600000000 3 = 3 := by
 unfold prsM; rw [gb_l]; rfl
theorem gb_n2 (e u s : Nat) : prsM (gX e u s) sRoot tx 600000000 3 = 0 := by
 unfold prsM; rw [gb_l]; rfl
theorem sort_one (a : ByteArray) : sortB [a] = [a] := List.perm_singleton.1 (sortB_perm [a])
theorem sort_nil : sortB [] = [] := List.perm_nil.1 (sortB_perm [])
theorem gb_p1 (e u s : Nat) : prsL (gX e u s) sRoot tMSTx 600000000 3 = [sOld] ∧ prsN (gX e u s) sRoot tMSTx 600000000 3 = 3 := by
 obtain ⟨h1, h2⟩ := prsL_is (x := gX e u s) (loc := sRoot) (s := tMSTx) (t := 600000000) (p := 3) (gb_e e u s)
 refine ⟨?_, h2.trans (gb_n1 e u s)⟩
 rw [h1, show (gX e u s).d.zs.length = 1 + 1 from rfl, prsUp_step (z := gZ1 e) rfl, prsUp_step (z := gZ0 e) (i := 0) rfl, gb_c0, gb_c1]
 unfold prsB
 rw [gb_n1]
 rw [if_neg (show ¬ same tGMTm4 (tMSTx.extract 0 3) = true from by rw [show same tGMTm4 (tMSTx.extract 0 3) = false from by kernel_rfl]; decide), if_pos (show same sMST (tMSTx.extract 0 3) = true from by kernel_rfl)]
 exact sort_one sOld
theorem gb_p2 (e u s : Nat) : prsL (gX e u s) sRoot tx 600000000 3 = [] ∧ prsN (gX e u s) sRoot tx 600000000 3 = 0 := by
 obtain ⟨h1, h2⟩ := prsL_is (x := gX e u s) (loc := sRoot) (s := tx) (t := 600000000) (p := 3) (gb_e e u s)
 refine ⟨?_, h2.trans (gb_n2 e u s)⟩
 rw [h1, show (gX e u s).d.zs.length = 1 + 1 from rfl, prsUp_step (z := gZ1 e) rfl, prsUp_step (z := gZ0 e) (i := 0) rfl, gb_c0, gb_c1]
 unfold prsB
 rw [gb_n2]
 rw [if_neg (show ¬ same tGMTm4 (tx.extract 0 0) = true from by rw [show same tGMTm4 (tx.extract 0 0) = false from by kernel_rfl]; decide), if_neg (show ¬ same sMST (tx.extract 0 0) = true from by rw [show same sMST (tx.extract 0 0) = false from by kernel_rfl]; decide)]
 exact sort_nil
end Gno
end
section
namespace Go.Proofs.YtbbbeldbhlehnaaGreatDoor
open Go.RowKit Gno
theorem ret_pv {a b c : Int} {v : Value} (h1 : a = b) : Ending.returned (.tuple #[.int .i64 a, v, .int .i64 c]) = .returned (.tuple #[.int .i64 b, v, .int .i64 c]) := by rw [h1]
set_option maxRecDepth 100000 in
set_option maxHeartbeats 400000 in
theorem parseP_any (x : Wd) (loc s : ByteArray) (t p : Int) (w : World) (hW : WdAt w x) (hM : MaxAt w w.heap.size) (hpw : (Lit.int .i64 p).wf = true) :
 Calls Tryz.prog 24 #[x.val, .string loc, .string s, .int .i64 t, .int .i64 p] w fun e w' => ∃ v, e = .returned (.tuple #[.int .i64 (prsN x loc s t p), v, .int .i64 (wdsE x loc t p)]) ∧ w'.ownsRow (w.heap.size + 1) 9 1 v (prsL x loc s t p).length (strs (prsL x loc s t p)) ∧ Below w.heap.size w w' := by
 have HX := Lib.hid (fun W (h : Below (w.heap.size + 1) (w.alloc (Wobj x)) W) => boxW hW h)
 have W1 := Lib.hid (fun W (h : Below (w.heap.size + 1) (w.alloc (Wobj x)) W) => wordsP_any x loc t p W (HX.out W h).2.1 (hM.next (HX.out W h).1) hpw)
 have hbb : Below (w.heap.size + 1) (w.alloc (Wobj x)) (w.alloc (Wobj x)) := Below.refl _ _
 have hzn : x.d.zs.length = x.d.zn := hW.1.2.1.1
 have HZG := Lib.hid (fun i (hi : i < x.d.zn) => zones_get hW.1.2.1 hi)
 unfold WdCells at HX
 unfold Wd.val at *
 clear hW hM hpw
 by_cases hE : wdsE x loc t p = 0
 ·obtain ⟨hpe, ht0, ht1⟩ := wdsE_zero hE
  have hfew := data_few (preE_zero hpe).1.data
  have hwr := words_right loc t p hzn
  have hll := wdsL_len hE
  have hkr := prsK_range (s := s) hE
  have HKW := Lib.hid (prsK_word (x := x) (loc := loc) (s := s) (t := t) (p := p))
  have HKN := Lib.hid (fun h => @prsK_no x loc s t p hzn hE h)
  have HWA := Lib.hid (fun i z (h : x.d.zs[i]? = some z) => wdsL_at hE h)
  have HST := Lib.hid (fun i z (h : x.d.zs[i]? = some z) => prsUp_step (loc := loc) (s := s) (t := t) (p := p) h)
  have HUL := Lib.hid (fun i => prsUp_len (x := x) (loc := loc) (s := s) (t := t) (p := p) i)
  have HZ : Hid (∀ i, i < x.d.zn → ∃ b o z, x.d.zA = some ⟨b, o, none⟩ ∧ x.d.zs[i]? = some z ∧ ∀ W, Below (w.heap.size + 1) (w.alloc (Wobj x)) W → (W.cell? ⟨b, o + i * 2, none⟩ = some (.string z.name) ∧ W.cell? ⟨b, o + i * 2 + 1, none⟩ = some (.slice z.A z.n z.cap))) := Lib.hid (fun i hi => by
   obtain ⟨b, o, z, e1, _, e2, _, e3⟩ := HZG.out i hi
   exact ⟨b, o, z, e1, e2, fun W h => (e3 W (HX.out W h).1).1⟩)
  obtain ⟨hp1, hp2⟩ := prsL_is (s := s) hE
  rw [hp1, hp2, hE, hzn]
  rw [hE] at W1
  have CB := Lib.hid (fun A cap W (h : StrsAt W W.heap.size A x.d.zn (wdsL x loc t p)) => build_n A x.d.zn cap (wdsL x loc t p) W h hwr)
  have CL := Lib.hid (fun A n cap W h => longW_any hwr A n cap s W h)
  rw [show lgK (buildL (bsL (wdsL x loc t p))) (bs s) s.size = prsK x loc s t p from rfl, show lgN (buildL (bsL (wdsL x loc t p))) (bs s) s.size = prsM x loc s t p from rfl] at CL
  obtain ⟨L, hL⟩ : ∃ L, L = wdsL x loc t p := ⟨_, rfl⟩
  obtain ⟨K, hK⟩ : ∃ L, L = prsK x loc s t p := ⟨_, rfl⟩
  obtain ⟨M, hM⟩ : ∃ L, L = prsM x loc s t p := ⟨_, rfl⟩
  obtain ⟨B, hB⟩ : ∃ L, L = prsB x loc s t p := ⟨_, rfl⟩
  rw [← hL] at W1 CB CL HKW HWA hll
  rw [← hK] at CL HKW HKN hkr
  rw [← hM] at CL ⊢
  rw [← hB] at HKW HKN HST
  rw [hzn] at hll hkr
  clear hL hK hM hB hE hpe ht0 ht1 hwr hp1 hp2 hzn HZG
  go_enter Tryz.func24, Tryz.ntmps24
  go_wp2_with fail
  refine (W1.out _ hbb).mono ?_
  rintro e w1 ⟨v1, rfl, ho1, h1⟩
  have H1 := Lib.hid (boxW_more hbb h1)
  rw [hll] at ho1
  obtain ⟨A, cap, rfl, hS1, _⟩ := own_SlB ho1 (by unfold maxLen; omega)
  clear h1 ho1 hbb W1
  go_wp2_with fail
  refine (CB.out A cap _ hS1).mono ?_
  rintro e w2 ⟨A2, n2, cap2, rfl, hN2, hn2, h2⟩
  have H2 := Lib.hid (boxW_more H1.out h2)
  go_wp2_with fail
  refine (CL.out A2 n2 cap2 _ hN2).mono ?_
  rintro e w3 ⟨rfl, h3⟩
  have H3 := Lib.hid (boxW_more H2.out h3)
  have HLC : Hid (∀ i q, L[i]? = some q → ∃ b o, A = some ⟨b, o, none⟩ ∧ ∀ W, Below w3.heap.size w3 W → W.cell? ⟨b, o + i, none⟩ = some (.string q)) := Lib.hid fun i q hq => by
   obtain ⟨b, o, q', hA, _, hq', hc⟩ := strs_get hS1 (i := i) (by have := (List.getElem?_eq_some_iff.1 hq).1; omega)
   rw [hq] at hq'
   obtain rfl := Option.some.inj hq'
   exact ⟨b, o, hA, fun W h => hc W (h2.trans ((h3.trans (h.mono h3.size)).mono h2.size))⟩
  obtain ⟨_, _, c0, c1, c2, c3, c4⟩ := HX.out _ H3.out
  clear h2 h3 hN2 hn2 hS1 CB CL H1 H2
  have H30 : Hid (Below w3.heap.size w3 w3) := Lib.hid (Below.refl _ _)
  go_wp2_with fail
  clear c0 c1 c2 c3 c4
  go_loopw [20, 50] (fun b11 b27 wr => ∃ (i : Nat) (v : Value), i ≤ x.d.zn ∧ b27 = .int .i64 i ∧ v = b11 ∧ Hid (wr.ownsRow w3.heap.size 9 1 v (prsUp x loc s t p i).length (strs (prsUp x loc s t p i))) ∧ Hid (Below w3.heap.size w3 wr)) (fun _ b27 _ => x.d.zn - (intOf b27).toNat)
  case atStart => exact ⟨0, _, Nat.zero_le _, rfl, rfl, Lib.hid (World.ownsRow_nil _ _ _ _), H30⟩
  case round =>
   clear H30
   obtain ⟨i, v, hi, rfl, rfl, hO, hb⟩ := hrel
   have hws := hb.out.size
   by_cases hit : i < x.d.zn
   ·obtain ⟨b, o, z, hA, hz, hzc⟩ := HZ.out i hit
    obtain ⟨z0, z1⟩ := hzc _ (boxW_more H3.out hb.out)
    have HS := Lib.hid (HST.out i z hz)
    have hul := HUL.out i
    have HMi := Lib.hid (HWA.out i z hz)
    have hzm := List.mem_of_getElem? hz
    obtain ⟨N, hN⟩ : ∃ M, M = calledZ x (bookN x.bs loc) z t p := ⟨_, rfl⟩
    obtain ⟨L0, hL⟩ : ∃ L, L = prsUp x loc s t p i := ⟨_, rfl⟩
    have HNO : Hid (K < 0 → same N B = false) := Lib.hid fun h => by rw [hN]; exact HKN.out h hzm
    rw [← hL] at hO hul HS
    rw [← hN] at HS HMi
    obtain ⟨O, hOb⟩ : ∃ O, O = Obj.cells #[.string z.name, .slice z.A z.n z.cap] 54 := ⟨_, rfl⟩
    have HO := Lib.hid (hO.out.alloc (.cells #[.string z.name, .slice z.A z.n z.cap] 54))
    have HBA : Hid (Below w3.heap.size w3 (wr.alloc (.cells #[.string z.name, .slice z.A z.n z.cap] 54))) := Lib.hid (hb.out.alloc hws _)
    have HK : Hid (∀ W, Below (wr.alloc (.cells #[.string z.name, .slice z.A z.n z.cap] 54)).heap.size (wr.alloc (.cells #[.string z.name, .slice z.A z.n z.cap] 54)) W → W.cell? ⟨wr.heap.size, 0, none⟩ = some (.string z.name)) := Lib.hid (fun W h => cell_ofU ((h.block wr.heap.size (by simp)).trans (World.alloc_heap_new wr _)) rfl)
    have HSZ : Hid (w3.heap.size ≤ (wr.alloc (.cells #[.string z.name, .slice z.A z.n z.cap] 54)).heap.size) := Lib.hid HBA.out.size
    rw [hA]
    clear hN hL hO hz hzc hA hOb O hzm
    by_cases hk : K < 0
    ·have hm := HNO.out hk
     have g0 : decide (0 ≤ K) = false := decide_eq_false (by omega)
     have HR : Hid ((wr.alloc (.cells #[.string z.name, .slice z.A z.n z.cap] 54)).ownsRow w3.heap.size 9 1 v (prsUp x loc s t p (i + 1)).length (strs (prsUp x loc s t p (i + 1)))) := Lib.hid (by
      rw [HS.out, if_neg (by rw [hm]; decide)]
      exact HO.out)
     clear HO HS HNO hm
     go_wp2
     go_quiet (fail)
     all_goals go_wp2
     go_roundw
     case rel => exact ⟨i + 1, v, by omega, by go_num, rfl, Lib.hid (drewN_ownU HR.out), Lib.hid (below_drewT HBA.out _)⟩
     case measure => simp [intOf]; omega
    ·obtain ⟨k, rfl⟩ : ∃ k : Nat, K = (k : Int) := ⟨K.toNat, by omega⟩
     have hkw := HKW.out (by omega)
     rw [Int.toNat_natCast] at hkw
     obtain ⟨bA, oA, hAA, hc1⟩ := HLC.out i N HMi.out
     obtain ⟨bB, oB, hAB, hc2⟩ := HLC.out k B hkw
     rw [hAA] at hAB
     injection hAB with hAB
     injection hAB with hq1 hq2
     subst hq1 hq2 hAA
     have e0 := hc1 _ HBA.out
     have e1 := hc2 _ HBA.out
     have e0d := hc1 _ HBA.out.drew
     have e1d := hc2 _ HBA.out.drew
     have k1 : (k : Int) < (x.d.zn : Int) := hkr.2
     have k0 : (0 : Int) ≤ (k : Int) := Int.natCast_nonneg _
     have i1 : (i : Int) < (x.d.zn : Int) := by omega
     have hlz : L.length = x.d.zn := hll
     clear hc1 hc2 hkw HNO hk
     cases hm : (N.toList == B.toList)
     ·have HR : Hid ((wr.alloc (.cells #[.string z.name, .slice z.A z.n z.cap] 54)).ownsRow w3.heap.size 9 1 v (prsUp x loc s t p (i + 1)).length (strs (prsUp x loc s t p (i + 1)))) := Lib.hid (by
       rw [HS.out, if_neg (by unfold same; rw [hm]; decide)]
       exact HO.out)
      clear HO HS
      go_wp2
      go_quiet (fail)
      all_goals go_wp2
      go_roundw
      case rel => exact ⟨i + 1, v, by omega, by go_num, rfl, Lib.hid (drewN_ownU HR.out), Lib.hid (below_drewT HBA.out _)⟩
      case measure => simp [intOf]; omega
     ·go_wp2
      go_quiet (fail)
      obtain ⟨wq, hwq⟩ : ∃ W, W = (wr.alloc (.cells #[.string z.name, .slice z.A z.n z.cap] 54)).drewN nq := ⟨_, rfl⟩
      have HBq : Hid (Below w3.heap.size w3 wq) := Lib.hid (by rw [hwq]; exact below_drewT HBA.out _)
      have HOq : Hid (wq.ownsRow w3.heap.size 9 1 v L0.length (strs L0)) := Lib.hid (by rw [hwq]; exact drewN_ownU HO.out)
      have k0q : wq.cell? ⟨wr.heap.size, 0, none⟩ = some (.string z.name) := by rw [hwq]; exact HK.out _ (below_drewT (Below.refl _ _) nq)
      have hszq : w3.heap.size ≤ wq.heap.size := HBq.out.size
      rw [← hwq]
      clear hwq e0 e1 e0d e1d z0 z1
      go_wp2_with (at_builtin; go_must (refine wpList_app HBq.out hszq _ 9 rfl _ _ 56 rfl Tryz.underlying56 _ 1 16 infoStr rfl (by decide) _ L0.length _ rfl HOq.out 1 rfl rfl (by simp [Value.oneCell']) (by unfold maxLen; omega) (by omega) ?_); intro v' w8 hown8 hb8 _)
      have HR : Hid (w8.ownsRow w3.heap.size 9 1 v' (prsUp x loc s t p (i + 1)).length (strs (prsUp x loc s t p (i + 1)))) := Lib.hid (by
       rw [HS.out, if_pos (by unfold same; exact hm), List.length_append]
       simpa [strs] using hown8)
      have HB8 := Lib.hid hb8
      clear hown8 hb8
      try go_wp2
      go_roundw
      case rel => exact ⟨i + 1, v', by omega, by go_num, rfl, HR, HB8⟩
      case measure => simp [intOf]; omega
   ·have hin : i = x.d.zn := by omega
    have hul := HUL.out i
    have HR : Hid (wr.ownsRow (w.heap.size + 1) 9 1 v (prsUp x loc s t p x.d.zn).length (strs (prsUp x loc s t p x.d.zn))) := Lib.hid (by rw [← hin]; exact own_baseU hO.out (by have := H3.out.size; simpa using this))
    have SO := Lib.hid (sort_ownS HR.out (by rw [← hin]; omega))
    have HOL := Lib.hid HR.out.lt
    have HBW := Lib.hid (boxW_more H3.out hb.out)
    have hws2 : w.heap.size + 1 ≤ wr.heap.size := by have := HBW.out.size; simpa using this
    clear hin
    go_wp2_with fail
    refine SO.out.mono ?_
    rintro e w6 ⟨rfl, hs6, hg6⟩
    have HBF := Lib.hid (HBW.out.grown hg6 hws2 (fun k hk => (HOL.out k hk).1))
    have HF := Lib.hid (HX.out _ HBF.out).1
    have HS6 : Hid (w6.ownsRow (w.heap.size + 1) 9 1 v (sortB (prsUp x loc s t p x.d.zn)).length (strs (sortB (prsUp x loc s t p x.d.zn)))) := Lib.hid (by rw [sortB_len]; exact hs6)
    clear hs6 hg6
    go_wp2
    go_ret3
    exact ⟨v, rfl, HS6.out, HF.out⟩
 ·obtain ⟨hp1, hp2⟩ := prsL_bad (s := s) hE
  rw [hp1, hp2]
  obtain ⟨E, hEE⟩ : ∃ E, E = wdsE x loc t p := ⟨_, rfl⟩
  rw [← hEE] at W1 hE ⊢
  have g1 : (E != 0) = true := by simpa using hE
  clear hEE hE hp1 hp2 hzn HZG
  go_enter Tryz.func24, Tryz.ntmps24
  go_wp2_with fail
  refine (W1.out _ hbb).mono ?_
  rintro e w3 ⟨v, rfl, _, h3⟩
  have HF := Lib.hid (HX.out _ (boxW_more hbb h3)).1
  clear h3 hbb W1
  go_wp2
  go_ret3
  exact ⟨_, ret_pv rfl, World.ownsRow_nil _ _ _ _, HF.out⟩
end Go.Proofs.YtbbbeldbhlehnaaGreatDoor
end
section
namespace Go.Proofs.YtbbbeldbhlehnaaGreatDoor
open Go.RowKit Gno
theorem two_row (W : World) : (W.alloc (.cells #[.string ⟨#[77, 83, 84]⟩, .string ⟨#[71, 77, 84, 45, 52]⟩] 9)).ownsRow W.heap.size 9 1 (.slice (some ⟨W.heap.size, 0, none⟩) 2 2) 2 (strs [sMST, tGMTm4]) :=
 ⟨rfl, .inr ⟨W.heap.size, 2, #[.string ⟨#[77, 83, 84]⟩, .string ⟨#[71, 77, 84, 45, 52]⟩], rfl, Nat.le_refl _, World.alloc_heap_new _ _, Nat.le_refl _, by decide, rfl, rfl⟩⟩
theorem old_row (W : World) : (W.alloc (.cells #[.string ⟨#[69, 47, 79, 108, 100, 95, 84, 111, 119, 110]⟩] 9)).ownsRow W.heap.size 9 1 (.slice (some ⟨W.heap.size, 0, none⟩) 1 1) 1 (strs [sOld]) :=
 ⟨rfl, .inr ⟨W.heap.size, 1, #[.string ⟨#[69, 47, 79, 108, 100, 95, 84, 111, 119, 110]⟩], rfl, Nat.le_refl _, World.alloc_heap_new _ _, Nat.le_refl _, by decide, rfl, rfl⟩⟩
theorem bb_words {w0 W : World} {a u s : Nat} (hb : Below w0.heap.size w0 W) (hM : MaxAt w0 w0.heap.size) (hW : WdAt W (gX a u s)) :
 Calls Tryz.prog 23 #[(gX a u s).val, .string ⟨#[114, 111, 111, 116]⟩, .int .i64 600000000, .int .i64 3] W fun e' w' => ∃ v, e' = .returned (.tuple #[v, .int .i64 0]) ∧ w'.ownsRow w0.heap.size 9 1 v 2 (strs [sMST, tGMTm4]) ∧ Below W.heap.size W w' := by
 have := wordsP_any (gX a u s) sRoot 600000000 3 W hW (hM.next hb) (by decide)
 rw [gb_e, gb_l] at this
 exact this.mono fun _ _ ⟨v, q1, q2, q3⟩ => ⟨v, q1, own_baseU q2 (by have := hb.size; omega), q3⟩
theorem bb_one {w0 W : World} {a u s : Nat} (hb : Below w0.heap.size w0 W) (hM : MaxAt w0 w0.heap.size) (hW : WdAt W (gX a u s)) :
 Calls Tryz.prog 24 #[(gX a u s).val, .string ⟨#[114, 111, 111, 116]⟩, .string ⟨#[77, 83, 84, 120]⟩, .int .i64 600000000, .int .i64 3] W fun e' w' => ∃ v, e' = .returned (.tuple #[.int .i64 3, v, .int .i64 0]) ∧ w'.ownsRow w0.heap.size 9 1 v 1 (strs [sOld]) ∧ Below W.heap.size W w' := by
 have := parseP_any (gX a u s) sRoot tMSTx 600000000 3 W hW (hM.next hb) (by decide)
 rw [gb_e, (gb_p1 a u s).1, (gb_p1 a u s).2] at this
 exact this.mono fun _ _ ⟨v, q1, q2, q3⟩ => ⟨v, q1, own_baseU q2 (by have := hb.size; omega), q3⟩
theorem bb_none {w0 W : World} {a u s : Nat} (hb : Below w0.heap.size w0 W) (hM : MaxAt w0 w0.heap.size) (hW : WdAt W (gX a u s)) :
 Calls Tryz.prog 24 #[(gX a u s).val, .string ⟨#[114, 111, 111, 116]⟩, .string ⟨#[120]⟩, .int .i64 600000000, .int .i64 3] W fun e' w' => ∃ v, e' = .returned (.tuple #[.int .i64 0, v, .int .i64 0]) ∧ w'.ownsRow w0.heap.size 9 1 v 0 (strs []) ∧ Below W.heap.size W w' := by
 have := parseP_any (gX a u s) sRoot tx 600000000 3 W hW (hM.next hb) (by decide)
 rw [gb_e, (gb_p2 a u s).1, (gb_p2 a u s).2] at this
 exact this.mono fun _ _ ⟨v, q1, q2, q3⟩ => ⟨v, q1, own_baseU q2 (by have := hb.size; omega), q3⟩
set_option maxRecDepth 100000 in
set_option maxHeartbeats 8000000 in
theorem backBegun_any (w : World) (hM : MaxAt w w.heap.size) :
 Calls Tryz.prog 27 #[] w fun e w' => e = .returned (.bool true) ∧ Below w.heap.size w w' := by
 have GL := Lib.hid (fun W => globe_any W)
 have W1 := Lib.hid (fun W a u s (h : Below w.heap.size w W) (hW : WdAt W (gX a u s)) => bb_words h hM hW)
 have P1 := Lib.hid (fun W a u s (h : Below w.heap.size w W) (hW : WdAt W (gX a u s)) => bb_one h hM hW)
 have P2 := Lib.hid (fun W a u s (h : Below w.heap.size w W) (hW : WdAt W (gX a u s)) => bb_none h hM hW)
 have ST := Lib.hid @sameTexts_any
 have HB := Lib.hid (Below.refl w.heap.size w)
 clear hM
 go_enter Tryz.func27, Tryz.ntmps27
 go_wp2_with fail
 refine (GL.out _).mono ?_
 rintro e w1a ⟨a1, u1, s1, rfl, hw1, hb1⟩
 replace HB := Lib.hid (HB.out.trans (hb1.mono HB.out.size))
 have HW1 := Lib.hid hw1
 clear hb1 hw1
 go_wp2_with fail
 refine (W1.out _ _ _ _ HB.out HW1.out).mono ?_
 rintro e w1b ⟨v1, rfl, ho1, hb1⟩
 replace HB := Lib.hid (HB.out.trans (hb1.mono HB.out.size))
 have HO1 := Lib.hid ho1
 clear hb1 HW1 W1 ho1
 go_wp2_with fail
 refine (GL.out _).mono ?_
 rintro e w2a ⟨a2, u2, s2, rfl, hw2, hb2⟩
 replace HO1 := Lib.hid (own_belowU HO1.out hb2 (Nat.le_refl _))
 replace HB := Lib.hid (HB.out.trans (hb2.mono HB.out.size))
 have HW2 := Lib.hid hw2
 clear hb2 hw2
 go_wp2_with fail
 refine (P1.out _ _ _ _ HB.out HW2.out).mono ?_
 rintro e w2b ⟨v2, rfl, ho2, hb2⟩
 replace HO1 := Lib.hid (own_belowU HO1.out hb2 (Nat.le_refl _))
 replace HB := Lib.hid (HB.out.trans (hb2.mono HB.out.size))
 have HO2 := Lib.hid ho2
 clear hb2 HW2 P1 ho2
 go_wp2_with fail
 refine (GL.out _).mono ?_
 rintro e w3a ⟨a3, u3, s3, rfl, hw3, hb3⟩
 replace HO1 := Lib.hid (own_belowU HO1.out hb3 (Nat.le_refl _))
 replace HO2 := Lib.hid (own_belowU HO2.out hb3 (Nat.le_refl _))
 replace HB := Lib.hid (HB.out.trans (hb3.mono HB.out.size))
 have HW3 := Lib.hid hw3
 clear hb3 hw3
 go_wp2_with fail
 refine (P2.out _ _ _ _ HB.out HW3.out).mono ?_
 rintro e w3b ⟨v3, rfl, ho3, hb3⟩
 replace HO1 := Lib.hid (own_belowU HO1.out hb3 (Nat.le_refl _))
 replace HO2 := Lib.hid (own_belowU HO2.out hb3 (Nat.le_refl _))
 replace HB := Lib.hid (HB.out.trans (hb3.mono HB.out.size))
 obtain ⟨A3, c3, rfl, _⟩ := own_formU ho3
 clear hb3 HW3 P2 ho3 GL
 have HO4 := Lib.hid (own_belowU HO1.out ((Below.refl w3b.heap.size w3b).alloc (Nat.le_refl _) (.cells #[.string ⟨#[77, 83, 84]⟩, .string ⟨#[71, 77, 84, 45, 52]⟩] 9)) (Nat.le_refl _))
 have HR4 := Lib.hid (two_row w3b)
 have HZ4 : Hid (Below w3b.heap.size w3b (w3b.alloc (.cells #[.string ⟨#[77, 83, 84]⟩, .string ⟨#[71, 77, 84, 45, 52]⟩] 9))) := Lib.hid ((Below.refl w3b.heap.size w3b).alloc (Nat.le_refl _) _)
 go_wp2_with fail
 refine (ST.out _ _ _ _ _ _ _ HO4.out HR4.out (by omega)).mono ?_
 rintro e w4 ⟨rfl, hb4⟩
 replace HB := Lib.hid (HB.out.trans ((HZ4.out.trans (hb4.mono HZ4.out.size)).mono HB.out.size))
 replace HO2 := Lib.hid (own_belowU HO2.out (HZ4.out.trans (hb4.mono HZ4.out.size)) (Nat.le_refl _))
 clear hb4 HO4 HR4 HZ4 HO1
 have HO5 := Lib.hid (own_belowU HO2.out ((Below.refl w4.heap.size w4).alloc (Nat.le_refl _) (.cells #[.string ⟨#[69, 47, 79, 108, 100, 95, 84, 111, 119, 110]⟩] 9)) (Nat.le_refl _))
 have HR5 := Lib.hid (old_row w4)
 have HZ5 : Hid (Below w4.heap.size w4 (w4.alloc (.cells #[.string ⟨#[69, 47, 79, 108, 100, 95, 84, 111, 119, 110]⟩] 9))) := Lib.hid ((Below.refl w4.heap.size w4).alloc (Nat.le_refl _) _)
 go_wp2_with fail
 refine (ST.out _ _ _ _ _ _ _ HO5.out HR5.out (by omega)).mono ?_
 rintro e w5 ⟨rfl, hb5⟩
 have HF := Lib.hid (HB.out.trans ((HZ5.out.trans (hb5.mono HZ5.out.size)).mono HB.out.size))
 clear hb5 HO5 HR5 HZ5 HO2
 go_wp2
 go_ret
 exact ⟨rfl, HF.out⟩
end Go.Proofs.YtbbbeldbhlehnaaGreatDoor
end
section
namespace Gno
open Go Go.RowKit Go.Proofs.YtbbbeldbhlehnaaGreatDoor
end Gno
namespace Go.Proofs.YtbbbeldbhlehnaaGreatDoor
open Go.RowKit Gno
end Go.Proofs.YtbbbeldbhlehnaaGreatDoor
end
section
namespace Gno
open Go
theorem wdsL_few {x : Wd} {loc : ByteArray} {t p : Int} (hzn : x.d.zs.length = x.d.zn) : (wdsL x loc t p).length ≤ 1000 := by
 by_cases h : wdsE x loc t p = 0
 ·have := data_few (preE_zero (wdsE_zero h).1).1.data
  rw [wdsL_len h]; omega
 ·rw [wdsL_bad h]; simp
end Gno
namespace Go.Proofs.YtbbbeldbhlehnaaGreatDoor
open Go.RowKit Gno
end Go.Proofs.YtbbbeldbhlehnaaGreatDoor
end
