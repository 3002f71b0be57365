/- Parts of a proof, laid together. -/
import Derived.Test.YtbbbeldbhlehnaaGreatDoorMUTrB233
import Derived.Test.YtbbbeldbhlehnaaGreatDoorMUTrB231
import Derived.Test.YtbbbeldbhlehnaaGreatDoorMUTrB229
import Derived.Test.YtbbbeldbhlehnaaGreatDoorMUTrB25
import Derived.Test.YtbbbeldbhlehnaaGreatDoorMUTrB210
import Derived.Test.YtbbbeldbhlehnaaGreatDoorMUTrB226
set_option linter.unusedSimpArgs false
set_option linter.unusedVariables false
section
namespace Gno
open Go
theorem preE_world {x : Wd} {loc : ByteArray} {p : Int} (h : worldE x ≠ 0) : preE x loc p = worldE x := by unfold preE; rw [if_pos h]
theorem preE_kind {x : Wd} {loc : ByteArray} {p : Int} (h : worldE x = 0) (h1 : ¬ (1 ≤ p ∧ p ≤ 4)) : preE x loc p = 8 := by unfold preE; rw [if_neg (by simp [h]), if_pos (by omega)]
theorem preE_book {x : Wd} {loc : ByteArray} {p : Int} (h : worldE x = 0) (h1 : 1 ≤ p ∧ p ≤ 4) (h2 : bookN x.bs loc < 0) : preE x loc p = 4 := by unfold preE; rw [if_neg (by simp [h]), if_neg (by omega), if_pos h2]
theorem called_id {x : Wd} {k : Int} {z : Zn} {t p : Int} (h : p = 2) : calledZ x k z t p = z.name := by unfold calledZ; rw [if_pos h]
theorem called_city {x : Wd} {k : Int} {z : Zn} {t p : Int} (h : p = 4) : calledZ x k z t p = byCity x k z := by unfold calledZ; rw [if_neg (by omega), if_pos h]
theorem called_name {x : Wd} {k : Int} {z : Zn} {t p : Int} (h : p = 3) : calledZ x k z t p = byName x k z t := by unfold calledZ; rw [if_neg (by omega), if_neg (by omega), if_pos h]
theorem called_off {x : Wd} {k : Int} {z : Zn} {t p : Int} (h : p ≠ 2) (h1 : p ≠ 3) (h2 : p ≠ 4) : calledZ x k z t p = offS x.d z t := by unfold calledZ; rw [if_neg h, if_neg h2, if_neg h1]
theorem sub_rem {a : Int} (h : -57600 ≤ a ∧ a ≤ 57600) : IntKind.i64.wrap (a - a.tmod 60) = a - a.tmod 60 := by
 have hb : (-60 < a.tmod 60 ∧ a.tmod 60 < 60) := by
  rcases Int.le_total 0 a with h | h
  ·have e : a.tmod 60 = a % 60 := Int.tmod_eq_emod_of_nonneg h
   rw [e]; omega
  ·obtain ⟨b, hb⟩ : ∃ b, a = -b := ⟨-a, by omega⟩
   have e : a.tmod 60 = -(b % 60) := by rw [hb, Int.neg_tmod, Int.tmod_eq_emod_of_nonneg (by omega)]
   rw [e]; omega
 rw [IntKind.wrap_i64]
 omega
end Gno
namespace Go.Proofs.YtbbbeldbhlehnaaGreatDoor
open Go.RowKit Gno
set_option maxRecDepth 100000 in
set_option maxHeartbeats 8000000 in
theorem calledR_any (x : Wd) (k t p : Int) (i : Nat) (z : Zn) (w : World) (hW : WdAt w x) (hM : MaxAt w w.heap.size) (hR : RightW x) (hk : -1 ≤ k) (hk2 : k < x.bn) (hz : x.d.zs[i]? = some z) (ht : t < 1893456000) :
 Calls Tryz.prog 41 #[x.val, .int .i64 k, .int .i64 i, .int .i64 t, .int .i64 p] w fun e w' => e = .returned (.string (calledZ x k z t p)) ∧ Below w.heap.size w w' := by
 have hP := parOk_of hR.books
 have hr := rightE_of hR.data
 have hms := metaU_size (rightU_of hR.uses) z.name t
 have hzm := List.mem_of_getElem? hz
 have hnk := nameOk_len (names_ok hR.data z hzm)
 have hbd := offTo_bd hr hzm ht
 have hsr := sub_rem hbd
 have hBK := hR.books
 have hi : i < x.d.zn := by rw [← hW.1.2.1.1]; exact (List.getElem?_eq_some_iff.1 hz).1
 have hi2 : (i : Int) < (x.d.zn : Int) := by omega
 obtain ⟨b, o, q, hA, hbB, hq, _, hq2⟩ := zones_get hW.1.2.1 hi
 rw [hz] at hq
 injection hq with hq
 subst hq
 have HX : Hid (∀ W, Below (w.heap.size + 1) (w.alloc (Wobj x)) W → Below w.heap.size w W ∧ (W.cell? ⟨w.heap.size, 0, none⟩ = some (.slice x.d.sA x.d.sn x.d.sc) ∧ W.cell? ⟨w.heap.size, 1, none⟩ = some (.slice (some ⟨b, o, none⟩) x.d.zn x.d.zc) ∧ W.cell? ⟨w.heap.size, 2, none⟩ = some (.slice x.d.lA x.d.ln x.d.lc) ∧ W.cell? ⟨w.heap.size, 3, none⟩ = some (.slice x.uA x.un x.uc) ∧ W.cell? ⟨w.heap.size, 4, none⟩ = some (.slice x.bA x.bn x.bc)) ∧ W.cell? ⟨b, o + i * 2, none⟩ = some (.string z.name)) := Lib.hid fun W h => by
  obtain ⟨h1, h2, h3⟩ := boxW hW h
  unfold WdCells at h3
  rw [hA] at h3
  exact ⟨h1, h3, (hq2 W h1).1.1⟩
 have H1 : Hid (∀ W, Below (w.heap.size + 1) (w.alloc (Wobj x)) W → Calls Tryz.prog 76 #[.agg #[.slice x.d.sA x.d.sn x.d.sc, .slice x.d.zA x.d.zn x.d.zc, .slice x.d.lA x.d.ln x.d.lc], .int .i64 i, .int .i64 t] W fun e w' => e = .returned (.agg #[.int .i64 (offTo x.d (eraOf z t) t), .int .i64 (offSv x.d (eraOf z t) t), .string (offAb x.d (eraOf z t) t)]) ∧ Below W.heap.size W w') := Lib.hid fun W h => by
  have h1 := (boxW hW h).1
  exact holdsRef_any x.d i t z W (hW.next h1).1 (hM.next h1) hr (by simpa using hz) (by omega) ht
 have T1 := Lib.hid (fun W => textR_any 3 (offN x.d z t) W)
 rw [show showE 3 (offN x.d z t) = 0 from offS_ok hr hzm ht, show showT 3 (offN x.d z t) = offS x.d z t from rfl] at T1
 have K1 : Hid (∀ key W, Below w.heap.size w W → Calls Tryz.prog 78 #[.slice x.bA x.bn x.bc, .int .i64 k, .string key] W fun e w' => e = .returned (.tuple #[.string (lookB x.bs key k).1, .bool (lookB x.bs key k).2]) ∧ Below W.heap.size W w') := Lib.hid fun key W h => textOf_any x.bA x.bn x.bc x.bs k key W (hW.next h).2.2 hP hk hk2
 have C1 := Lib.hid (fun W => cityR_any 12 z.name W hnk.2 (by omega))
 have M1 : Hid (∀ W, Below w.heap.size w W → Calls Tryz.prog 79 #[.slice x.uA x.un x.uc, .string z.name, .int .i64 t] W fun e w' => e = .returned (.string (metaU x.us z.name t)) ∧ Below W.heap.size W w') := Lib.hid fun W h => metaOfR_any x.uA x.un x.uc x.us z.name t W (hW.next h).2.1
 have N1 : Hid (∀ key W, key.size ≤ 14 → (lookB x.bs key k).2 = true → Calls Tryz.prog 14 #[.string key] W fun e w' => e = .returned (.bool true) ∧ W = w') := Lib.hid fun key W h1 h2 => by
  have := isName_any key W (by unfold maxLen; omega)
  rwa [(look_true hBK h2).1] at this
 have HBN := Lib.hid (fun key (h : (metaU x.us z.name t).size ≠ 0) hk => byName_yes (x := x) (k := k) (z := z) (t := t) (key := key) h hk)
 have HB0N := Lib.hid (fun h => byName_no (x := x) (k := k) (z := z) (t := t) h)
 have HBC : Hid (byCity x k z = if (lookB x.bs z.name k).2 = true then (lookB x.bs z.name k).1 else cityT z.name) := Lib.hid rfl
 have hbb : Below (w.heap.size + 1) (w.alloc (Wobj x)) (w.alloc (Wobj x)) := Below.refl _ _
 have q0 := (HX.out _ hbb).2.2
 have hc2 := called_id (x := x) (k := k) (z := z) (t := t) (p := p)
 have hc3 := called_name (x := x) (k := k) (z := z) (t := t) (p := p)
 have hc4 := called_city (x := x) (k := k) (z := z) (t := t) (p := p)
 have hc1 := called_off (x := x) (k := k) (z := z) (t := t) (p := p)
 obtain ⟨CZ, hCZ⟩ : ∃ v, v = calledZ x k z t p := ⟨_, rfl⟩
 rw [← hCZ] at hc1 hc2 hc3 hc4 ⊢
 have HC1 := Lib.hid hc1
 have HC2 := Lib.hid hc2
 have HC3 := Lib.hid hc3
 have HC4 := Lib.hid hc4
 obtain ⟨BC, hBC⟩ : ∃ v, v = byCity x k z := ⟨_, rfl⟩
 rw [← hBC] at HC4 HBC
 obtain ⟨BN, hBN⟩ : ∃ v, v = byName x k z t := ⟨_, rfl⟩
 obtain ⟨M, hM'⟩ : ∃ v, v = metaU x.us z.name t := ⟨_, rfl⟩
 obtain ⟨OS, hOS⟩ : ∃ v, v = offS x.d z t := ⟨_, rfl⟩
 obtain ⟨N, hN⟩ : ∃ v, v = offN x.d z t := ⟨_, rfl⟩
 have hN' : N = offTo x.d (eraOf z t) t - (offTo x.d (eraOf z t) t).tmod 60 := by rw [hN]; rfl
 obtain ⟨TT, hTT⟩ : ∃ v, v = offTo x.d (eraOf z t) t := ⟨_, rfl⟩
 obtain ⟨SV, hSV⟩ : ∃ v, v = offSv x.d (eraOf z t) t := ⟨_, rfl⟩
 obtain ⟨AB, hAB⟩ : ∃ v, v = offAb x.d (eraOf z t) t := ⟨_, rfl⟩
 obtain ⟨CT, hCT⟩ : ∃ v, v = cityT z.name := ⟨_, rfl⟩
 rw [← hM'] at M1 hms HBN HB0N
 rw [← hOS] at T1 HBN HB0N HC1
 rw [← hN] at T1
 rw [← hSV] at HBN H1
 rw [← hTT] at hsr hN' H1
 rw [← hAB] at H1
 rw [← hBN] at HBN HB0N HC3
 rw [← hCT] at C1 HBC
 replace hsr := hsr.trans hN'.symm
 obtain ⟨nm, hnm⟩ : ∃ v, v = z.name := ⟨_, rfl⟩
 rw [← hnm] at HX C1 M1 HBC HC2 q0
 unfold Wd.val
 have hWo : Wobj x = .cells #[.slice x.d.sA x.d.sn x.d.sc, .slice (some ⟨b, o, none⟩) x.d.zn x.d.zc, .slice x.d.lA x.d.ln x.d.lc, .slice x.uA x.un x.uc, .slice x.bA x.bn x.bc] 30 := by unfold Wobj; rw [hA]
 rw [hWo] at HX H1 hbb q0
 rw [hA] at H1 ⊢
 have HMS := Lib.hid hms
 clear hWo hW hM hz hq2 hbB hR hP hr hk hk2 hi ht hc1 hc2 hc3 hc4 hCZ hBC hBN hM' hOS hN hN' hTT hSV hAB hCT hnm hzm hnk hbd hBK hms hA
 go_enter Tryz.func41, Tryz.ntmps41
 go_wp2_with fail
 refine (H1.out _ hbb).mono ?_
 rintro e w1 ⟨rfl, h1⟩
 have H1B := Lib.hid (hbb.trans (h1.mono (by simp)))
 have HY : Hid (∀ W, Below (w1.heap.size + 1) (w1.alloc (.cells #[.int .i64 TT, .int .i64 SV, .string AB] 46)) W → Below w.heap.size w W ∧ (W.cell? ⟨w.heap.size, 0, none⟩ = some (.slice x.d.sA x.d.sn x.d.sc) ∧ W.cell? ⟨w.heap.size, 1, none⟩ = some (.slice (some ⟨b, o, none⟩) x.d.zn x.d.zc) ∧ W.cell? ⟨w.heap.size, 2, none⟩ = some (.slice x.d.lA x.d.ln x.d.lc) ∧ W.cell? ⟨w.heap.size, 3, none⟩ = some (.slice x.uA x.un x.uc) ∧ W.cell? ⟨w.heap.size, 4, none⟩ = some (.slice x.bA x.bn x.bc)) ∧ W.cell? ⟨w1.heap.size, 1, none⟩ = some (.int .i64 SV)) := Lib.hid fun W h => by
  have hz1 := H1B.out.size
  simp at hz1
  have hw1 : Below w1.heap.size w1 W := ((Below.refl w1.heap.size w1).alloc (Nat.le_refl _) _).trans (h.mono (by omega))
  have h5 := HX.out W (H1B.out.trans (hw1.mono (by omega)))
  exact ⟨h5.1, h5.2.1, cell_ofU ((h.block w1.heap.size (by omega)).trans (World.alloc_heap_new w1 (.cells #[.int .i64 TT, .int .i64 SV, .string AB] 46))) rfl⟩
 have hbi : Below (w1.heap.size + 1) (w1.alloc (.cells #[.int .i64 TT, .int .i64 SV, .string AB] 46)) (w1.alloc (.cells #[.int .i64 TT, .int .i64 SV, .string AB] 46)) := Below.refl _ _
 clear h1 H1 hbb q0
 go_wp2_with fail
 refine (T1.out _).mono ?_
 rintro e w2 ⟨rfl, h2⟩
 have H2 := Lib.hid (hbi.trans (h2.mono (by simp)))
 obtain ⟨hF2, ⟨c0, c1, c2, c3, c4⟩, d1⟩ := HY.out _ H2.out
 have HF2 := Lib.hid hF2
 clear h2 hbi hsr T1 hF2
 have HM : Hid (∀ W V, Below (w1.heap.size + 1) (w1.alloc (.cells #[.int .i64 TT, .int .i64 SV, .string AB] 46)) W → Below W.heap.size W V → Below (w1.heap.size + 1) (w1.alloc (.cells #[.int .i64 TT, .int .i64 SV, .string AB] 46)) V) := Lib.hid fun W V h h' => h.trans (h'.mono (by have := h.size; simpa using this))
 by_cases hp2 : p = 2
 ·have HE := Lib.hid (HC2.out hp2)
  have g1 : (p == 2) = true := beq_iff_eq.2 hp2
  clear hp2
  go_wp2
  go_ret
  exact ⟨retO_str HE.out.symm, HF2.out⟩
 ·have g1 : (p == 2) = false := beq_eq_false_iff_ne.2 hp2
  by_cases hp4 : p = 4
  ·have HE := Lib.hid ((HC4.out hp4).trans HBC.out)
   have g2 : (p == 4) = true := beq_iff_eq.2 hp4
   have K2 := Lib.hid (K1.out nm)
   obtain ⟨LS, hLS⟩ : ∃ v, v = (lookB x.bs nm k).1 := ⟨_, rfl⟩
   obtain ⟨LB, hLB⟩ : ∃ v, v = (lookB x.bs nm k).2 := ⟨_, rfl⟩
   rw [← hLS, ← hLB] at K2 HE
   clear hp2 hp4 hLS hLB K1 N1 d1
   go_wp2_with fail
   refine (K2.out _ HF2.out).mono ?_
   rintro e w3 ⟨rfl, h3⟩
   have HF3 := Lib.hid (HF2.out.trans (h3.mono HF2.out.size))
   clear h3 c0 c1 c2 c3 c4
   cases LB
   ·replace HE := Lib.hid (HE.out.trans (if_neg (by decide)))
    go_wp2_with fail
    refine (C1.out _).mono ?_
    rintro e w4 ⟨rfl, h4⟩
    have HF4 := Lib.hid (HF3.out.trans (h4.mono HF3.out.size))
    clear h4
    go_wp2
    go_ret
    exact ⟨retO_str HE.out.symm, HF4.out⟩
   ·replace HE := Lib.hid (HE.out.trans (if_pos rfl))
    go_wp2
    go_ret
    exact ⟨retO_str HE.out.symm, HF3.out⟩
  ·have g2 : (p == 4) = false := beq_eq_false_iff_ne.2 hp4
   by_cases hp3 : p = 3
   ·have g3 : (p == 3) = true := beq_iff_eq.2 hp3
    have HE := Lib.hid (HC3.out hp3)
    clear hp2 hp4 hp3 C1 HBC
    go_wp2_with fail
    refine (M1.out _ HF2.out).mono ?_
    rintro e w3 ⟨rfl, h3⟩
    have H3 := Lib.hid (HM.out _ _ H2.out h3)
    clear h3 c0 c1 c2 c3 c4 d1
    obtain ⟨hF3, ⟨c0, c1, c2, c3, c4⟩, d1⟩ := HY.out _ H3.out
    have HF3 := Lib.hid hF3
    clear hF3
    by_cases hm0 : M.size = 0
    ·have HE2 := Lib.hid (HE.out.trans (HB0N.out hm0))
     have hme := empty_of hm0
     subst hme
     clear hm0
     go_wp2
     go_ret
     exact ⟨retO_str HE2.out.symm, HF3.out⟩
    ·have g0 : M.toList.isEmpty = false := some_list hm0
     have hs1 : M.size + (⟨#[47, 115]⟩ : ByteArray).size ≤ 9223372036854775807 := by have := HMS.out; show M.size + 2 ≤ _; omega
     have hs2 : M.size + (⟨#[47, 100]⟩ : ByteArray).size ≤ 9223372036854775807 := by have := HMS.out; show M.size + 2 ≤ _; omega
     obtain ⟨KEY, hKEY⟩ : ∃ v, v = useKey M SV := ⟨_, rfl⟩
     have HY2 := Lib.hid (HE.out.trans (HBN.out KEY hm0 hKEY.symm))
     have hks : KEY.size ≤ 14 := by
      have := HMS.out
      rw [hKEY]; unfold useKey
      split <;> (rw [ByteArray.size_append]; first | (show M.size + 2 ≤ _; omega))
     obtain ⟨SFX, hSFX, hSV⟩ : ∃ SFX, KEY = M ++ SFX ∧ (((SV == 0) = true ∧ SFX = ⟨#[47, 115]⟩) ∨ ((SV == 0) = false ∧ SFX = ⟨#[47, 100]⟩)) := by
      rw [hKEY]
      by_cases h : SV = 0
      ·exact ⟨⟨#[47, 115]⟩, by unfold useKey; rw [if_pos h]; rfl, .inl ⟨beq_iff_eq.2 h, rfl⟩⟩
      ·exact ⟨⟨#[47, 100]⟩, by unfold useKey; rw [if_neg h]; rfl, .inr ⟨beq_eq_false_iff_ne.2 h, rfl⟩⟩
     have K2 := Lib.hid (K1.out KEY)
     have N2 := Lib.hid (fun W h => N1.out KEY W hks h)
     obtain ⟨LS, hLS⟩ : ∃ v, v = (lookB x.bs KEY k).1 := ⟨_, rfl⟩
     obtain ⟨LB, hLB⟩ : ∃ v, v = (lookB x.bs KEY k).2 := ⟨_, rfl⟩
     rw [← hLS, ← hLB] at K2 HY2
     rw [← hLB] at N2
     rw [hSFX] at K2 N2
     clear hKEY hLS hLB hm0 K1 N1 hks hSFX HBN HB0N HE
     rcases hSV with ⟨g4, rfl⟩ | ⟨g4, rfl⟩ <;> (
      go_wp2_with fail
      refine (K2.out _ HF3.out).mono ?_
      rintro e w4 ⟨rfl, h4⟩
      have HF4 := Lib.hid (HF3.out.trans (h4.mono HF3.out.size))
      clear h4 c0 c1 c2 c3 c4 d1
      cases LB
      ·replace HY2 := Lib.hid (HY2.out.trans (if_neg (by decide)))
       go_wp2
       go_ret
       exact ⟨retO_str HY2.out.symm, HF4.out⟩
      ·replace HY2 := Lib.hid (HY2.out.trans (if_pos rfl))
       replace N2 := Lib.hid (fun W => N2.out W rfl)
       go_wp2_with fail
       refine (N2.out _).mono ?_
       rintro e w5 ⟨rfl, rfl⟩
       go_wp2
       go_ret
       exact ⟨retO_str HY2.out.symm, HF4.out⟩)
   ·have g3 : (p == 3) = false := beq_eq_false_iff_ne.2 hp3
    have HE := Lib.hid (HC1.out hp2 hp3 hp4)
    clear hp2 hp3 hp4
    go_wp2
    go_ret
    exact ⟨retO_str HE.out.symm, HF2.out⟩
set_option maxRecDepth 100000 in
set_option maxHeartbeats 8000000 in
theorem preR_any (x : Wd) (loc : ByteArray) (t p : Int) (w : World) (hW : WdAt w x) :
 Calls Tryz.prog 38 #[x.val, .string loc, .int .i64 t, .int .i64 p] w fun e w' => e = .returned (.int .i64 (preE x loc p)) ∧ Below w.heap.size w w' := by
 have HX := Lib.hid (fun W (h : Below (w.heap.size + 1) (w.alloc (Wobj x)) W) => boxW hW h)
 have K1 := Lib.hid (fun W (h : Below (w.heap.size + 1) (w.alloc (Wobj x)) W) => worldR_any x W (HX.out W h).2.1)
 have B1 := Lib.hid (fun W (h : Below (w.heap.size + 1) (w.alloc (Wobj x)) W) => bookAt_any x.bA x.bn x.bc x.bs loc W (HX.out W h).2.1.2.2)
 have W1 := Lib.hid (fun W => within_any p 1 4 W)
 have hbb : Below (w.heap.size + 1) (w.alloc (Wobj x)) (w.alloc (Wobj x)) := Below.refl _ _
 unfold WdCells at HX
 unfold Wd.val at *
 clear hW
 by_cases hwe : worldE x = 0
 ·rw [hwe] at K1
  go_enter Tryz.func38, Tryz.ntmps38
  go_wp2_with fail
  refine (K1.out _ hbb).mono ?_
  rintro e w1 ⟨rfl, h1⟩
  have H1 := Lib.hid (boxW_more hbb h1)
  obtain ⟨hF, _, c0, c1, c2, c3, c4⟩ := HX.out _ H1.out
  have HF := Lib.hid hF
  clear h1 hbb K1 hF
  by_cases hp : 1 ≤ p ∧ p ≤ 4
  ·rw [(withinB_iff p 1 4).2 hp] at W1
   by_cases hbk : bookN x.bs loc < 0
   ·have HE := Lib.hid (preE_book hwe hp hbk)
    obtain ⟨BK, hBK⟩ : ∃ v, v = bookN x.bs loc := ⟨_, rfl⟩
    rw [← hBK] at B1 hbk
    have g1 : decide (BK < (0 : Int)) = true := decide_eq_true hbk
    clear hBK hbk hp
    go_wp2_with fail
    refine (W1.out _).mono ?_
    rintro e w2 ⟨rfl, rfl⟩
    go_wp2_with fail
    refine (B1.out _ H1.out).mono ?_
    rintro e w3 ⟨rfl, h3⟩
    have HF3 := Lib.hid (HF.out.trans (h3.mono HF.out.size))
    clear h3 c0 c1 c2 c3 c4
    go_wp2
    go_ret
    exact ⟨ret_int HE.out.symm, HF3.out⟩
   ·have HE := Lib.hid (preE_is (loc := loc) hwe hp hbk)
    obtain ⟨BK, hBK⟩ : ∃ v, v = bookN x.bs loc := ⟨_, rfl⟩
    rw [← hBK] at B1 hbk
    have g1 : decide (BK < (0 : Int)) = false := decide_eq_false hbk
    clear hBK hbk hp
    go_wp2_with fail
    refine (W1.out _).mono ?_
    rintro e w2 ⟨rfl, rfl⟩
    go_wp2_with fail
    refine (B1.out _ H1.out).mono ?_
    rintro e w3 ⟨rfl, h3⟩
    have HF3 := Lib.hid (HF.out.trans (h3.mono HF.out.size))
    clear h3 c0 c1 c2 c3 c4
    go_wp2
    go_ret
    exact ⟨ret_int HE.out.symm, HF3.out⟩
  ·rw [(withinB_no p 1 4).2 hp] at W1
   have HE := Lib.hid (preE_kind (loc := loc) hwe hp)
   clear hp
   go_wp2_with fail
   refine (W1.out _).mono ?_
   rintro e w2 ⟨rfl, rfl⟩
   go_wp2
   go_ret
   exact ⟨ret_int HE.out.symm, HF.out⟩
 ·have HE := Lib.hid (preE_world (loc := loc) (p := p) hwe)
  obtain ⟨E, hE⟩ : ∃ E, E = worldE x := ⟨_, rfl⟩
  rw [← hE] at K1 HE hwe
  have g1 : (E != 0) = true := by simpa using hwe
  clear hE
  go_enter Tryz.func38, Tryz.ntmps38
  go_wp2_with fail
  refine (K1.out _ hbb).mono ?_
  rintro e w1 ⟨rfl, h1⟩
  have HF := Lib.hid (HX.out _ (boxW_more hbb h1)).1
  clear h1 hbb
  go_wp2
  go_ret
  exact ⟨ret_int HE.out.symm, HF.out⟩
end Go.Proofs.YtbbbeldbhlehnaaGreatDoor
end
section
namespace Gno
open Go
def gX (e u s : Nat) : Wd := { d := euD e (-1) sOld, uA := some ⟨u, 0, none⟩, un := 2, uc := 2, us := uCall, bA := some ⟨s + 2, 0, none⟩, bn := 2, bc := 2, bs := shelfB s (-1) }
def gZ0 (k : Nat) : Zn := ⟨sOld, some ⟨k + 3, 0, none⟩, 2, 2, [⟨1800, -1, 0, sLMT, 500000000⟩, ⟨3600, 0, 0, sCEsT, 1893456000⟩]⟩
def gZ1 (k : Nat) : Zn := ⟨sAW, some ⟨k + 4, 0, none⟩, 1, 1, [⟨-18000, -1, 3600, sXT, 1893456000⟩]⟩
theorem gX_world (e u s : Nat) : worldE (gX e u s) = 0 := by
 unfold worldE
 rw [show usesE (gX e u s).d (gX e u s).us = 0 from eu_call e, if_neg (by simp)]
 exact shelf_ok s
theorem g_pre {e u s : Nat} {loc : ByteArray} {p k : Int} (h : bookN (shelfB s (-1)) loc = k) (hk : 0 ≤ k) (hp : 1 ≤ p ∧ p ≤ 4) : preE (gX e u s) loc p = 0 := by
 refine preE_is (gX_world e u s) hp ?_
 show ¬ bookN (shelfB s (-1)) loc < 0
 omega
def tGMT030 : ByteArray := ⟨#[71, 77, 84, 43, 48, 58, 51, 48]⟩
def tGMTm4 : ByteArray := ⟨#[71, 77, 84, 45, 52]⟩
def tOldTown : ByteArray := ⟨#[79, 108, 100, 32, 84, 111, 119, 110]⟩
end Gno
end
section
namespace Go.Proofs.YtbbbeldbhlehnaaGreatDoor
open Go.RowKit Gno
theorem gX_at {W : World} {e u s : Nat} (h1 : EuIn W e (-1) sOld) (h2 : e + 7 ≤ W.heap.size) (h3 : W.heap[u]? = some calO) (h4 : ShelfIn W s (-1)) (h5 : s + 2 < W.heap.size) : WdAt W (gX e u s) :=
 ⟨eu_data h1 h2 old_le, cal_at h3, shelf_at h4 h5⟩
theorem setCell_heap {W : World} {b o b' : Nat} {v : Value} (h : b ≠ b') : (W.setCell ⟨b, o, none⟩ v).heap[b']? = W.heap[b']? := by
 unfold World.setCell
 simp [Array.getElem?_modify, h]
theorem gX_like {V W : World} {b e u s : Nat} (h : ∀ c, b ≠ c → V.heap[c]? = W.heap[c]?) (hs : V.heap.size = W.heap.size) (he : b < e) (hu : b < u) (hS : b < s)
 (H : EuIn W e (-1) sOld ∧ e + 7 ≤ W.heap.size ∧ W.heap[u]? = some calO ∧ ShelfIn W s (-1) ∧ s + 2 < W.heap.size) : WdAt V (gX e u s) := by
 obtain ⟨h1, h2, h3, h4, h5⟩ := H
 refine gX_at ⟨?_, ?_, ?_, ?_, ?_, ?_⟩ (by omega) ?_ ⟨?_, ?_, ?_⟩ (by omega)
 ·rw [h _ (by omega)]; exact h1.o1
 ·rw [h _ (by omega)]; exact h1.o2
 ·rw [h _ (by omega)]; exact h1.o3
 ·rw [h _ (by omega)]; exact h1.o4
 ·rw [h _ (by omega)]; exact h1.o5
 ·rw [h _ (by omega)]; exact h1.o6
 ·rw [h _ (by omega)]; exact h3
 ·intro j c hj; rw [World.cell?_of_block (h (s + 0) (by omega))]; exact h4.1 j c hj
 ·intro j c hj; rw [World.cell?_of_block (h (s + 1) (by omega))]; exact h4.2.1 j c hj
 ·intro j c hj; rw [World.cell?_of_block (h (s + 2) (by omega))]; exact h4.2.2 j c hj
set_option maxRecDepth 100000 in
set_option maxHeartbeats 8000000 in
theorem globe_any (w : World) : Calls Tryz.prog 47 #[] w fun e w' => ∃ a u s, e = .returned (gX a u s).val ∧ WdAt w' (gX a u s) ∧ Below w.heap.size w w' := by
 obtain ⟨w1, hw1⟩ : ∃ v, v = w.alloc (.cells #[.slice none 0 0, .slice none 0 0, .slice none 0 0, .slice none 0 0, .slice none 0 0] 30) := ⟨_, rfl⟩
 have hz1 : w1.heap.size = w.heap.size + 1 := by rw [hw1]; simp
 have hb1 : Below w.heap.size w w1 := by rw [hw1]; exact (Below.refl _ _).alloc (Nat.le_refl _) _
 have hk1 : w1.heap[w.heap.size]? = some (.cells #[.slice none 0 0, .slice none 0 0, .slice none 0 0, .slice none 0 0, .slice none 0 0] 30) := by rw [hw1]; exact World.alloc_heap_new w _
 obtain ⟨hc1, hc2, hc3⟩ := ec_ctx w1
 obtain ⟨W3, hW3⟩ : ∃ v, v = shelfW (ecW w1) := ⟨_, rfl⟩
 have hs := shelfW_below (ecW w1)
 have hsz := shelfW_size (ecW w1)
 have hsi := shelfW_in (ecW w1)
 rw [← hW3] at hs hsz hsi
 have heb : Below w1.heap.size w1 (ecW w1) := ec_next (Below.refl _ _)
 have hb3 : Below w1.heap.size w1 W3 := heb.trans (hs.mono heb.size)
 have hu : (euW w1).heap.size < (ecW w1).heap.size := (Array.getElem?_eq_some_iff.1 hc3).1
 have HE : Hid (EuIn W3 w1.heap.size (-1) sOld ∧ w1.heap.size + 7 ≤ W3.heap.size ∧ W3.heap[(euW w1).heap.size]? = some calO ∧ ShelfIn W3 (ecW w1).heap.size (-1) ∧ (ecW w1).heap.size + 2 < W3.heap.size) :=
  Lib.hid ⟨hc1.below hs hc2, by have := hs.size; omega, (hs.block _ hu).trans hc3, hsi, by omega⟩
 have hk3 : W3.heap[w.heap.size]? = some (.cells #[.slice none 0 0, .slice none 0 0, .slice none 0 0, .slice none 0 0, .slice none 0 0] 30) := (hb3.block _ (by omega)).trans hk1
 have SP := Lib.hid (eu_mk w1)
 have CL := Lib.hid (called_any (euW w1))
 have SH := Lib.hid (shelf_any (ecW w1))
 rw [← hW3] at SH
 have HBW : Hid (Below w.heap.size w W3) := Lib.hid (hb1.trans (hb3.mono (by omega)))
 have HK3 := Lib.hid hk3
 have HZ1 := Lib.hid hz1
 have k0 := cell_of (o := 0) hk3 rfl
 have k1 := cell_of (o := 1) hk3 rfl
 have k2 := cell_of (o := 2) hk3 rfl
 have k3 := cell_of (o := 3) hk3 rfl
 have k4 := cell_of (o := 4) hk3 rfl
 have f0 := frozen_of (o := 0) hk3
 have f1 := frozen_of (o := 1) hk3
 have f2 := frozen_of (o := 2) hk3
 have f3 := frozen_of (o := 3) hk3
 have f4 := frozen_of (o := 4) hk3
 obtain ⟨E, hE⟩ : ∃ v, v = w1.heap.size := ⟨_, rfl⟩
 obtain ⟨U, hU⟩ : ∃ v, v = (euW w1).heap.size := ⟨_, rfl⟩
 obtain ⟨S, hS⟩ : ∃ v, v = (ecW w1).heap.size := ⟨_, rfl⟩
 rw [← hE] at SP
 rw [← hU] at CL
 rw [← hS] at SH
 rw [← hE, ← hU, ← hS] at HE
 obtain ⟨W2, hW2⟩ : ∃ v, v = ecW w1 := ⟨_, rfl⟩
 obtain ⟨W1, hW1⟩ : ∃ v, v = euW w1 := ⟨_, rfl⟩
 have CL' : Hid (Calls Tryz.prog 88 #[] W1 fun e w' => e = .returned (.slice (some ⟨U, 0, none⟩) 2 2) ∧ w' = W2) := Lib.hid (by rw [hW1, hW2]; exact CL.out)
 rw [← hW2] at SH
 rw [← hW1] at SP
 have HE1 : Hid (w.heap.size < E ∧ w.heap.size < U ∧ w.heap.size < S) := Lib.hid ⟨by rw [hE]; omega, by rw [hU, euW_size]; omega, by rw [hS]; have := heb.size; omega⟩
 clear hb1 hk1 hc1 hc2 hc3 hs hsz hsi heb hb3 hu hk3 CL hE hU hS hW3 hW2 hW1 hz1
 go_enter Tryz.func47, Tryz.ntmps47
 go_wp2_with fail
 rw [← hw1]
 refine SP.out.mono ?_
 rintro e w' ⟨rfl, rfl⟩
 go_wp2_with fail
 refine CL'.out.mono ?_
 rintro e w' ⟨rfl, rfl⟩
 go_wp2_with fail
 refine SH.out.mono ?_
 rintro e w' ⟨rfl, rfl⟩
 go_wp2
 refine bodyPost_ret (results_cell_row rfl _ _ w.heap.size 30 _ (0, 0) _ rfl (set_obj (set_obj (set_obj (set_obj (set_obj HK3.out _) _) _) _) _) Tryz.underlying30 rfl (by kernel_rfl)) rfl ⟨E, U, S, rfl, ?_, ((((HBW.out.setCell (Nat.le_refl _) _).setCell (Nat.le_refl _) _).setCell (Nat.le_refl _) _).setCell (Nat.le_refl _) _).setCell (Nat.le_refl _) _⟩
 exact gX_like (b := w.heap.size) (W := w') (fun c hc => by rw [setCell_heap hc, setCell_heap hc, setCell_heap hc, setCell_heap hc, setCell_heap hc]) (by simp) HE1.out.1 HE1.out.2.1 HE1.out.2.2 HE.out
end Go.Proofs.YtbbbeldbhlehnaaGreatDoor
end
section
namespace Go.Proofs.YtbbbeldbhlehnaaGreatDoor
open Go.RowKit Gno
end Go.Proofs.YtbbbeldbhlehnaaGreatDoor
end
section
namespace Go.Proofs.YtbbbeldbhlehnaaGreatDoor
open Go.RowKit Gno
end Go.Proofs.YtbbbeldbhlehnaaGreatDoor
end
section
namespace Go.Proofs.YtbbbeldbhlehnaaGreatDoor
open Go.RowKit Gno
set_option maxRecDepth 100000 in
set_option maxHeartbeats 8000000 in
theorem wordsR_any (x : Wd) (loc : ByteArray) (t p : Int) (w : World) (hW : WdAt w x) (hM : MaxAt w w.heap.size) :
 Calls Tryz.prog 25 #[x.val, .string loc, .int .i64 t, .int .i64 p] w fun e w' => ∃ v, e = .returned (.tuple #[v, .int .i64 (wdsE x loc t p)]) ∧ w'.ownsRow (w.heap.size + 1) 9 1 v (wdsL x loc t p).length (strs (wdsL x loc t p)) ∧ Below w.heap.size w w' := by
 have HX := Lib.hid (fun W (h : Below (w.heap.size + 1) (w.alloc (Wobj x)) W) => boxW hW h)
 have K1 := Lib.hid (fun W (h : Below (w.heap.size + 1) (w.alloc (Wobj x)) W) => preR_any x loc t p W (HX.out W h).2.1)
 have B1 := Lib.hid (fun W (h : Below (w.heap.size + 1) (w.alloc (Wobj x)) W) => bookAt_any x.bA x.bn x.bc x.bs loc W (HX.out W h).2.1.2.2)
 have C1 := Lib.hid (fun W (h : Below (w.heap.size + 1) (w.alloc (Wobj x)) W) k i z (hR : RightW x) hk hk2 hz ht => calledR_any x k t p i z W (HX.out W h).2.1 (hM.next (HX.out W h).1) hR hk hk2 hz ht)
 have hbb : Below (w.heap.size + 1) (w.alloc (Wobj x)) (w.alloc (Wobj x)) := Below.refl _ _
 have hbn : bookN x.bs loc < x.bn := by have := (bookN_range x.bs loc).2; rw [hW.2.2.1] at this; exact this
 have hzn : x.d.zs.length = x.d.zn := hW.1.2.1.1
 unfold WdCells at HX
 unfold Wd.val at *
 clear hW hM
 by_cases hpe : preE x loc p = 0
 ·rw [hpe] at K1
  by_cases ht : t < 0 ∨ 1893456000 ≤ t
  ·have hE : wdsE x loc t p = 3 := by unfold wdsE; rw [if_neg (by simp [hpe]), if_pos ht]
   have IT : Hid (∀ w, Calls Tryz.prog 40 #[.int .i64 t] w fun e w' => e = .returned (.bool false) ∧ w = w') := Lib.hid (fun w => by
    have := isTime_any t w
    rwa [show timeOk t = false by unfold timeOk; exact (withinB_no _ _ _).2 (by omega)] at this)
   rw [wdsL_bad (by rw [hE]; decide), hE]
   clear hE hpe ht C1 B1 hzn hbn
   go_enter Tryz.func25, Tryz.ntmps25
   go_wp2_with fail
   refine (K1.out _ hbb).mono ?_
   rintro e w1 ⟨rfl, h1⟩
   have HF := Lib.hid (HX.out _ (boxW_more hbb h1)).1
   clear h1 hbb K1
   go_wp2_with fail
   refine (IT.out _).mono ?_
   rintro e w3 ⟨rfl, rfl⟩
   go_wp2
   go_ret2
   exact ⟨_, rfl, World.ownsRow_nil _ _ _ _, HF.out⟩
  ·have hE : wdsE x loc t p = 0 := by unfold wdsE; rw [if_neg (by simp [hpe]), if_neg ht]
   obtain ⟨hR, hp1, hp4, hbk⟩ := preE_zero hpe
   have hfew := data_few hR.data
   have IT : Hid (∀ w, Calls Tryz.prog 40 #[.int .i64 t] w fun e w' => e = .returned (.bool true) ∧ w = w') := Lib.hid (fun w => by
    have := isTime_any t w
    rwa [show timeOk t = true by unfold timeOk; exact (withinB_iff _ _ _).2 (by omega)] at this)
   have HST := Lib.hid (fun i z (h : x.d.zs[i]? = some z) => wdsUp_step (loc := loc) (t := t) (p := p) h)
   have HUL := Lib.hid (fun i => wdsUp_len (x := x) (loc := loc) (t := t) (p := p) i)
   have HEND : Hid (wdsUp x loc t p x.d.zn = wdsL x loc t p) := Lib.hid (wdsL_is hE (by omega))
   have HG : Hid (∀ i, i < x.d.zn → ∃ z, x.d.zs[i]? = some z) := Lib.hid fun i hi => ⟨_, List.getElem?_eq_getElem (by omega)⟩
   have C2 := Lib.hid (fun W h i z hz => C1.out W h (bookN x.bs loc) i z hR (by omega) hbn hz (by omega))
   obtain ⟨i0, hi0, hz0, hz1, hz2⟩ := info_parts infoStr
   have hI := Lib.hid hi0
   have hZ0 := Lib.hid hz0
   have hZ1 := Lib.hid hz1
   have hZ2 := Lib.hid hz2
   rw [hE]
   clear hE hpe ht C1 hR hp1 hp4 hbk hzn hbn hi0 hz0 hz1 hz2
   go_enter Tryz.func25, Tryz.ntmps25
   go_wp2_with fail
   refine (K1.out _ hbb).mono ?_
   rintro e w1 ⟨rfl, h1⟩
   have H1 := Lib.hid (boxW_more hbb h1)
   clear h1 hbb K1
   go_wp2_with fail
   refine (IT.out _).mono ?_
   rintro e w3 ⟨rfl, rfl⟩
   go_wp2_with fail
   go_loopw [11, 12] (fun b11 b27 wr => ∃ (i : Nat) (v : Value), i ≤ x.d.zn ∧ b27 = .int .i64 i ∧ v = b11 ∧ Hid (wr.ownsRow (w.heap.size + 1) 9 1 v (wdsUp x loc t p i).length (strs (wdsUp x loc t p i))) ∧ Hid (Below (w.heap.size + 1) (w.alloc (Wobj x)) wr)) (fun _ b27 _ => x.d.zn - (intOf b27).toNat)
   case atStart => exact ⟨0, _, Nat.zero_le _, rfl, rfl, Lib.hid (World.ownsRow_nil _ _ _ _), H1⟩
   case round =>
    clear H1
    obtain ⟨i, v, hi, rfl, rfl, hO, hb⟩ := hrel
    have hws : w.heap.size + 1 ≤ wr.heap.size := by have := hb.out.size; simpa using this
    by_cases hit : i < x.d.zn
    ·obtain ⟨z, hz⟩ := HG.out i hit
     have HS := Lib.hid (HST.out i z hz)
     have HCC := Lib.hid (fun W h => C2.out W h i z hz)
     have hul := HUL.out i
     obtain ⟨L, hL⟩ : ∃ L, L = wdsUp x loc t p i := ⟨_, rfl⟩
     obtain ⟨M, hM⟩ : ∃ M, M = calledZ x (bookN x.bs loc) z t p := ⟨_, rfl⟩
     obtain ⟨BK, hBK⟩ : ∃ v, v = bookN x.bs loc := ⟨_, rfl⟩
     rw [← hL] at hO hul HS
     rw [← hM] at HCC HS
     rw [← hBK] at HCC B1
     have HOX : Hid (∀ W, Below wr.heap.size wr W → W.ownsRow (w.heap.size + 1) 9 1 v L.length (strs L)) := Lib.hid fun W h => own_belowU hO.out h (Nat.le_refl _)
     have HBK2 : Hid (∀ k, v.ownBlock = some k → w.heap.size + 1 ≤ k) := Lib.hid fun k hk => (hO.out.lt k hk).1
     have HXB : Hid (∀ W, Below wr.heap.size wr W → Below (w.heap.size + 1) (w.alloc (Wobj x)) W ∧ W.cell? ⟨w.heap.size, 0, none⟩ = some (.slice x.d.sA x.d.sn x.d.sc) ∧ W.cell? ⟨w.heap.size, 1, none⟩ = some (.slice x.d.zA x.d.zn x.d.zc) ∧ W.cell? ⟨w.heap.size, 2, none⟩ = some (.slice x.d.lA x.d.ln x.d.lc) ∧ W.cell? ⟨w.heap.size, 3, none⟩ = some (.slice x.uA x.un x.uc) ∧ W.cell? ⟨w.heap.size, 4, none⟩ = some (.slice x.bA x.bn x.bc)) := Lib.hid fun W h => ⟨boxW_more hb.out h, (HX.out _ (boxW_more hb.out h)).2.2⟩
     have HKP : Hid (∀ W, Below (w.heap.size + 1) (w.alloc (Wobj x)) W → Below (w.heap.size + 1) (w.alloc (Wobj x)) W ∧ W.cell? ⟨w.heap.size, 0, none⟩ = some (.slice x.d.sA x.d.sn x.d.sc) ∧ W.cell? ⟨w.heap.size, 1, none⟩ = some (.slice x.d.zA x.d.zn x.d.zc) ∧ W.cell? ⟨w.heap.size, 2, none⟩ = some (.slice x.d.lA x.d.ln x.d.lc) ∧ W.cell? ⟨w.heap.size, 3, none⟩ = some (.slice x.uA x.un x.uc) ∧ W.cell? ⟨w.heap.size, 4, none⟩ = some (.slice x.bA x.bn x.bc)) := Lib.hid fun W h => ⟨h, (HX.out W h).2.2⟩
     obtain ⟨_, c0, c1, c2, c3, c4⟩ := HXB.out _ (Below.refl _ _)
     clear hL hM hBK hO hb hz HST HG C2 HUL
     go_wp2_with fail
     have HD : Hid (Below wr.heap.size wr wr.drew) := Lib.hid (Below.refl _ _).drew
     clear c0 c1 c2 c3 c4
     obtain ⟨hd0, c0, c1, c2, c3, c4⟩ := HXB.out _ HD.out
     go_region_held3 (fun w' => Below (w.heap.size + 1) (w.alloc (Wobj x)) w' ∧ w'.cell? ⟨w.heap.size, 0, none⟩ = some (.slice x.d.sA x.d.sn x.d.sc) ∧ w'.cell? ⟨w.heap.size, 1, none⟩ = some (.slice x.d.zA x.d.zn x.d.zc) ∧ w'.cell? ⟨w.heap.size, 2, none⟩ = some (.slice x.d.lA x.d.ln x.d.lc) ∧ w'.cell? ⟨w.heap.size, 3, none⟩ = some (.slice x.uA x.un x.uc) ∧ w'.cell? ⟨w.heap.size, 4, none⟩ = some (.slice x.bA x.bn x.bc))
      (first | (refine ⟨?_, ?_, ?_, ?_, ?_, ?_⟩ <;> (first | assumption | exact Below.drew (by assumption) | go_keep)) | (refine HKP.out _ ?_; repeat (first | assumption | refine Below.drew ?_ | refine Below.alloc ?_ (by assumption) _)))
      (first
       | (go_at_call 42; refine (B1.out _ (HXB.out _ (by first | assumption | exact HD.out)).1).mono ?_; rintro e w5 ⟨rfl, hb5'⟩; have hb5 : Below wr.heap.size wr w5 := (Below.trans (by first | assumption | exact HD.out) (hb5'.mono (by first | exact HD.out.size | assumption))); clear hb5' c0 c1 c2 c3 c4; obtain ⟨hd5, c0, c1, c2, c3, c4⟩ := HXB.out _ hb5)
       | (go_at_call 41; refine (HCC.out _ (HXB.out _ (by first | exact hb5 | exact HD.out)).1).mono ?_; rintro e w6 ⟨rfl, hb6'⟩; have hb6 : Below wr.heap.size wr w6 := hb5.trans (hb6'.mono hb5.size); clear hb6' c0 c1 c2 c3 c4; obtain ⟨hd6, c0, c1, c2, c3, c4⟩ := HXB.out _ hb6; have hz6 := hb6.size; have hz7 : w.heap.size + 1 ≤ w6.heap.size := (by omega); have HO6 := Lib.hid ((HOX.out _ hb6).alloc (.cells #[.string M] 9)); have HLA : Hid (∀ j u, [Value.string M][j]? = some u → (w6.alloc (.cells #[.string M] 9)).cell? ((⟨w6.heap.size, 0, none⟩ : Addr).add j) = some u) := Lib.hid (laid_at (cs := #[.string M])))
       | (refine step_append_lies _ rfl _ _ 56 rfl (w.heap.size + 1) 9 i0 (.string ⟨#[]⟩) 1 16 Tryz.underlying56 hI.out hZ0.out hZ1.out hZ2.out rfl (by decide) v L.length _ rfl HO6.out ⟨w6.heap.size, 0, none⟩ 1 1 [.string M] rfl rfl HLA.out (by intro u hu; simp at hu; subst hu; rfl) (by decide) (by unfold maxLen; omega) (by omega) (by simp; omega) _ rfl ?_; intro g3 cap3 w8 hown8 hg8 hat8 hlt8; have hd8 : Below (w.heap.size + 1) (w.alloc (Wobj x)) w8 := ((hd6.alloc hz7 (.cells #[.string M] 9)).grown hg8 (by simp; omega) (fun k hk => HBK2.out k hk))))
     all_goals
      have HB8 := Lib.hid hd8
      have HR : Hid (w8.ownsRow (w.heap.size + 1) 9 1 (.slice (some ⟨g3, 0, none⟩) (L.length + 1) cap3) (wdsUp x loc t p (i + 1)).length (strs (wdsUp x loc t p (i + 1)))) := Lib.hid (by
       rw [HS.out, List.length_append]
       simpa [strs] using hown8)
      clear hown8 hg8 hat8 hlt8 hd8
      go_wp2
      go_roundw
      case rel => exact ⟨i + 1, _, by omega, by go_num, rfl, HR, HB8⟩
      case measure => simp [intOf]; omega
    ·have hin : i = x.d.zn := by omega
     have HR : Hid (wr.ownsRow (w.heap.size + 1) 9 1 v (wdsL x loc t p).length (strs (wdsL x loc t p))) := Lib.hid (by rw [← HEND.out, ← hin]; exact hO.out)
     obtain ⟨hF, _, c0, c1, c2, c3, c4⟩ := HX.out _ hb.out
     have HF := Lib.hid hF
     clear hin hF
     go_wp2
     go_ret2
     exact ⟨v, rfl, HR.out, HF.out⟩
 ·have hE : wdsE x loc t p = preE x loc p := by unfold wdsE; rw [if_pos hpe]
  rw [wdsL_bad (by rw [hE]; exact hpe), hE]
  obtain ⟨E, hEE⟩ : ∃ E, E = preE x loc p := ⟨_, rfl⟩
  rw [← hEE] at K1 hpe ⊢
  have g1 : (E != 0) = true := by simpa using hpe
  clear hEE hE hpe C1 B1 hzn hbn
  go_enter Tryz.func25, Tryz.ntmps25
  go_wp2_with fail
  refine (K1.out _ hbb).mono ?_
  rintro e w1 ⟨rfl, h1⟩
  have HF := Lib.hid (HX.out _ (boxW_more hbb h1)).1
  clear h1 hbb
  go_wp2
  go_ret2
  exact ⟨_, rfl, World.ownsRow_nil _ _ _ _, HF.out⟩
end Go.Proofs.YtbbbeldbhlehnaaGreatDoor
end
