/- Parts of a proof, laid together. -/
import Derived.Test.YtbbbeldbhlehnaaGreatDoorMUNmTl35
import Derived.Test.YtbbbeldbhlehnaaGreatDoorMUNmTl33
import Derived.Test.YtbbbeldbhlehnaaGreatDoorMUNmTl31
import Derived.Test.YtbbbeldbhlehnaaGreatDoorMUNmTl6
import Derived.Test.YtbbbeldbhlehnaaGreatDoorMUNmTl12
set_option linter.unusedSimpArgs false
set_option linter.unusedVariables false
/-! The reference's called, NameError, NameOf. -/
section
set_option linter.unusedVariables false
set_option linter.unusedSimpArgs false
namespace Gno
open Go
theorem preE_world {x : Wd} {loc : ByteArray} {p : Int} (h : worldE x ≠ 0) : preE x loc p = worldE x := by unfold preE; rw [if_pos h]
theorem preE_kind {x : Wd} {loc : ByteArray} {p : Int} (h : worldE x = 0) (h1 : ¬ (1 ≤ p ∧ p ≤ 4)) : preE x loc p = 8 := by unfold preE; rw [if_neg (by simp [h]), if_pos (by omega)]
theorem preE_book {x : Wd} {loc : ByteArray} {p : Int} (h : worldE x = 0) (h1 : 1 ≤ p ∧ p ≤ 4) (h2 : bookN x.bs loc < 0) : preE x loc p = 4 := by unfold preE; rw [if_neg (by simp [h]), if_neg (by omega), if_pos h2]
theorem nameE_pre {x : Wd} {loc nm : ByteArray} {t p : Int} (h : preE x loc p ≠ 0) : nameE x loc nm t p = preE x loc p := by unfold nameE; rw [if_pos h]
theorem nameE_none {x : Wd} {loc nm : ByteArray} {t p : Int} (h : preE x loc p = 0) (h1 : leadN x.d nm < 0) : nameE x loc nm t p = 4 := by unfold nameE; rw [if_neg (by simp [h]), if_pos h1]
theorem nameE_time {x : Wd} {loc nm : ByteArray} {t p : Int} (h : preE x loc p = 0) (h1 : ¬ leadN x.d nm < 0) (h2 : t < 0 ∨ 1893456000 ≤ t) : nameE x loc nm t p = 3 := by unfold nameE; rw [if_neg (by simp [h]), if_neg h1, if_pos h2]
theorem called_id {x : Wd} {k : Int} {z : Zn} {t p : Int} (h : p = 2) : calledZ x k z t p = z.name := by unfold calledZ; rw [if_pos h]
theorem called_city {x : Wd} {k : Int} {z : Zn} {t p : Int} (h : p = 4) : calledZ x k z t p = byCity x k z := by unfold calledZ; rw [if_neg (by omega), if_pos h]
theorem called_name {x : Wd} {k : Int} {z : Zn} {t p : Int} (h : p = 3) : calledZ x k z t p = byName x k z t := by unfold calledZ; rw [if_neg (by omega), if_neg (by omega), if_pos h]
theorem called_off {x : Wd} {k : Int} {z : Zn} {t p : Int} (h : p ≠ 2) (h1 : p ≠ 3) (h2 : p ≠ 4) : calledZ x k z t p = offS x.d z t := by unfold calledZ; rw [if_neg h, if_neg h2, if_neg h1]
theorem sub_rem {a : Int} (h : -57600 ≤ a ∧ a ≤ 57600) : IntKind.i64.wrap (a - a.tmod 60) = a - a.tmod 60 := by
  have hb : (-60 < a.tmod 60 ∧ a.tmod 60 < 60) := by
    rcases Int.le_total 0 a with h | h
    · have e : a.tmod 60 = a % 60 := Int.tmod_eq_emod_of_nonneg h
      rw [e]; omega
    · obtain ⟨b, hb⟩ : ∃ b, a = -b := ⟨-a, by omega⟩
      have e : a.tmod 60 = -(b % 60) := by rw [hb, Int.neg_tmod, Int.tmod_eq_emod_of_nonneg (by omega)]
      rw [e]; omega
  rw [IntKind.wrap_i64]
  omega
end Gno
namespace Go.Proofs.YtbbbeldbhlehnaaGreatDoor
open Go.RowKit Gno
set_option maxRecDepth 100000 in
set_option maxHeartbeats 8000000 in
theorem calledR_any (x : Wd) (k t p : Int) (i : Nat) (z : Zn) (w : World) (hW : WdAt w x) (hM : MaxAt w w.heap.size) (hR : RightW x) (hk : -1 ≤ k) (hk2 : k < x.bn) (hz : x.d.zs[i]? = some z) (ht : t < 1893456000) :
    Calls Tryz.prog 41 #[x.val, .int .i64 k, .int .i64 i, .int .i64 t, .int .i64 p] w fun e w' => e = .returned (.string (calledZ x k z t p)) ∧ Below w.heap.size w w' := by
  have hP := parOk_of hR.books
  have hr := rightE_of hR.data
  have hms := metaU_size (rightU_of hR.uses) z.name t
  have hzm := List.mem_of_getElem? hz
  have hnk := nameOk_len (names_ok hR.data z hzm)
  have hbd := offTo_bd hr hzm ht
  have hsr := sub_rem hbd
  have hBK := hR.books
  have hi : i < x.d.zn := by rw [← hW.1.2.1.1]; exact (List.getElem?_eq_some_iff.1 hz).1
  have hi2 : (i : Int) < (x.d.zn : Int) := by omega
  obtain ⟨b, o, q, hA, hbB, hq, _, hq2⟩ := zones_get hW.1.2.1 hi
  rw [hz] at hq
  injection hq with hq
  subst hq
  have HX : Hid (∀ W, Below (w.heap.size + 1) (w.alloc (Wobj x)) W → Below w.heap.size w W ∧ (W.cell? ⟨w.heap.size, 0, none⟩ = some (.slice x.d.sA x.d.sn x.d.sc) ∧ W.cell? ⟨w.heap.size, 1, none⟩ = some (.slice (some ⟨b, o, none⟩) x.d.zn x.d.zc) ∧ W.cell? ⟨w.heap.size, 2, none⟩ = some (.slice x.d.lA x.d.ln x.d.lc) ∧ W.cell? ⟨w.heap.size, 3, none⟩ = some (.slice x.uA x.un x.uc) ∧ W.cell? ⟨w.heap.size, 4, none⟩ = some (.slice x.bA x.bn x.bc)) ∧ W.cell? ⟨b, o + i * 2, none⟩ = some (.string z.name)) := Lib.hid fun W h => by
    obtain ⟨h1, h2, h3⟩ := boxW hW h
    unfold WdCells at h3
    rw [hA] at h3
    exact ⟨h1, h3, (hq2 W h1).1.1⟩
  have H1 : Hid (∀ W, Below (w.heap.size + 1) (w.alloc (Wobj x)) W → Calls Tryz.prog 76 #[.agg #[.slice x.d.sA x.d.sn x.d.sc, .slice x.d.zA x.d.zn x.d.zc, .slice x.d.lA x.d.ln x.d.lc], .int .i64 i, .int .i64 t] W fun e w' => e = .returned (.agg #[.int .i64 (offTo x.d (eraOf z t) t), .int .i64 (offSv x.d (eraOf z t) t), .string (offAb x.d (eraOf z t) t)]) ∧ Below W.heap.size W w') := Lib.hid fun W h => by
    have h1 := (boxW hW h).1
    exact holdsRef_any x.d i t z W (hW.next h1).1 (hM.next h1) hr (by simpa using hz) (by omega) ht
  have T1 := Lib.hid (fun W => textR_any 3 (offN x.d z t) W)
  rw [show showE 3 (offN x.d z t) = 0 from offS_ok hr hzm ht, show showT 3 (offN x.d z t) = offS x.d z t from rfl] at T1
  have K1 : Hid (∀ key W, Below w.heap.size w W → Calls Tryz.prog 78 #[.slice x.bA x.bn x.bc, .int .i64 k, .string key] W fun e w' => e = .returned (.tuple #[.string (lookB x.bs key k).1, .bool (lookB x.bs key k).2]) ∧ Below W.heap.size W w') := Lib.hid fun key W h => textOf_any x.bA x.bn x.bc x.bs k key W (hW.next h).2.2 hP hk hk2
  have C1 := Lib.hid (fun W => cityR_any 12 z.name W hnk.2 (by omega))
  have M1 : Hid (∀ W, Below w.heap.size w W → Calls Tryz.prog 79 #[.slice x.uA x.un x.uc, .string z.name, .int .i64 t] W fun e w' => e = .returned (.string (metaU x.us z.name t)) ∧ Below W.heap.size W w') := Lib.hid fun W h => metaOfR_any x.uA x.un x.uc x.us z.name t W (hW.next h).2.1
  have N1 : Hid (∀ key W, key.size ≤ 14 → (lookB x.bs key k).2 = true → Calls Tryz.prog 14 #[.string key] W fun e w' => e = .returned (.bool true) ∧ W = w') := Lib.hid fun key W h1 h2 => by
    have := isName_any key W (by unfold maxLen; omega)
    rwa [(look_true hBK h2).1] at this
  have HBN := Lib.hid (fun key (h : (metaU x.us z.name t).size ≠ 0) hk => byName_yes (x := x) (k := k) (z := z) (t := t) (key := key) h hk)
  have HB0N := Lib.hid (fun h => byName_no (x := x) (k := k) (z := z) (t := t) h)
  have HBC : Hid (byCity x k z = if (lookB x.bs z.name k).2 = true then (lookB x.bs z.name k).1 else cityT z.name) := Lib.hid rfl
  have hbb : Below (w.heap.size + 1) (w.alloc (Wobj x)) (w.alloc (Wobj x)) := Below.refl _ _
  have q0 := (HX.out _ hbb).2.2
  have hc2 := called_id (x := x) (k := k) (z := z) (t := t) (p := p)
  have hc3 := called_name (x := x) (k := k) (z := z) (t := t) (p := p)
  have hc4 := called_city (x := x) (k := k) (z := z) (t := t) (p := p)
  have hc1 := called_off (x := x) (k := k) (z := z) (t := t) (p := p)
  obtain ⟨CZ, hCZ⟩ : ∃ v, v = calledZ x k z t p := ⟨_, rfl⟩
  rw [← hCZ] at hc1 hc2 hc3 hc4 ⊢
  have HC1 := Lib.hid hc1
  have HC2 := Lib.hid hc2
  have HC3 := Lib.hid hc3
  have HC4 := Lib.hid hc4
  obtain ⟨BC, hBC⟩ : ∃ v, v = byCity x k z := ⟨_, rfl⟩
  rw [← hBC] at HC4 HBC
  obtain ⟨BN, hBN⟩ : ∃ v, v = byName x k z t := ⟨_, rfl⟩
  obtain ⟨M, hM'⟩ : ∃ v, v = metaU x.us z.name t := ⟨_, rfl⟩
  obtain ⟨OS, hOS⟩ : ∃ v, v = offS x.d z t := ⟨_, rfl⟩
  obtain ⟨N, hN⟩ : ∃ v, v = offN x.d z t := ⟨_, rfl⟩
  have hN' : N = offTo x.d (eraOf z t) t - (offTo x.d (eraOf z t) t).tmod 60 := by rw [hN]; rfl
  obtain ⟨TT, hTT⟩ : ∃ v, v = offTo x.d (eraOf z t) t := ⟨_, rfl⟩
  obtain ⟨SV, hSV⟩ : ∃ v, v = offSv x.d (eraOf z t) t := ⟨_, rfl⟩
  obtain ⟨AB, hAB⟩ : ∃ v, v = offAb x.d (eraOf z t) t := ⟨_, rfl⟩
  obtain ⟨CT, hCT⟩ : ∃ v, v = cityT z.name := ⟨_, rfl⟩
  rw [← hM'] at M1 hms HBN HB0N
  rw [← hOS] at T1 HBN HB0N HC1
  rw [← hN] at T1
  rw [← hSV] at HBN H1
  rw [← hTT] at hsr hN' H1
  rw [← hAB] at H1
  rw [← hBN] at HBN HB0N HC3
  rw [← hCT] at C1 HBC
  replace hsr := hsr.trans hN'.symm
  obtain ⟨nm, hnm⟩ : ∃ v, v = z.name := ⟨_, rfl⟩
  rw [← hnm] at HX C1 M1 HBC HC2 q0
  unfold Wd.val
  have hWo : Wobj x = .cells #[.slice x.d.sA x.d.sn x.d.sc, .slice (some ⟨b, o, none⟩) x.d.zn x.d.zc, .slice x.d.lA x.d.ln x.d.lc, .slice x.uA x.un x.uc, .slice x.bA x.bn x.bc] 30 := by unfold Wobj; rw [hA]
  rw [hWo] at HX H1 hbb q0
  rw [hA] at H1 ⊢
  have HMS := Lib.hid hms
  clear hWo hW hM hz hq2 hbB hR hP hr hk hk2 hi ht hc1 hc2 hc3 hc4 hCZ hBC hBN hM' hOS hN hN' hTT hSV hAB hCT hnm hzm hnk hbd hBK hms hA
  go_enter Tryz.func41, Tryz.ntmps41
  go_wp2_with fail
  refine (H1.out _ hbb).mono ?_
  rintro e w1 ⟨rfl, h1⟩
  have H1B := Lib.hid (hbb.trans (h1.mono (by simp)))
  have HY : Hid (∀ W, Below (w1.heap.size + 1) (w1.alloc (.cells #[.int .i64 TT, .int .i64 SV, .string AB] 46)) W → Below w.heap.size w W ∧ (W.cell? ⟨w.heap.size, 0, none⟩ = some (.slice x.d.sA x.d.sn x.d.sc) ∧ W.cell? ⟨w.heap.size, 1, none⟩ = some (.slice (some ⟨b, o, none⟩) x.d.zn x.d.zc) ∧ W.cell? ⟨w.heap.size, 2, none⟩ = some (.slice x.d.lA x.d.ln x.d.lc) ∧ W.cell? ⟨w.heap.size, 3, none⟩ = some (.slice x.uA x.un x.uc) ∧ W.cell? ⟨w.heap.size, 4, none⟩ = some (.slice x.bA x.bn x.bc)) ∧ W.cell? ⟨w1.heap.size, 1, none⟩ = some (.int .i64 SV)) := Lib.hid fun W h => by
    have hz1 := H1B.out.size
    simp at hz1
    have hw1 : Below w1.heap.size w1 W := ((Below.refl w1.heap.size w1).alloc (Nat.le_refl _) _).trans (h.mono (by omega))
    have h5 := HX.out W (H1B.out.trans (hw1.mono (by omega)))
    exact ⟨h5.1, h5.2.1, cell_ofU ((h.block w1.heap.size (by omega)).trans (World.alloc_heap_new w1 (.cells #[.int .i64 TT, .int .i64 SV, .string AB] 46))) rfl⟩
  have hbi : Below (w1.heap.size + 1) (w1.alloc (.cells #[.int .i64 TT, .int .i64 SV, .string AB] 46)) (w1.alloc (.cells #[.int .i64 TT, .int .i64 SV, .string AB] 46)) := Below.refl _ _
  clear h1 H1 hbb q0
  go_wp2_with fail
  refine (T1.out _).mono ?_
  rintro e w2 ⟨rfl, h2⟩
  have H2 := Lib.hid (hbi.trans (h2.mono (by simp)))
  obtain ⟨hF2, ⟨c0, c1, c2, c3, c4⟩, d1⟩ := HY.out _ H2.out
  have HF2 := Lib.hid hF2
  clear h2 hbi hsr T1 hF2
  have HM : Hid (∀ W V, Below (w1.heap.size + 1) (w1.alloc (.cells #[.int .i64 TT, .int .i64 SV, .string AB] 46)) W → Below W.heap.size W V → Below (w1.heap.size + 1) (w1.alloc (.cells #[.int .i64 TT, .int .i64 SV, .string AB] 46)) V) := Lib.hid fun W V h h' => h.trans (h'.mono (by have := h.size; simpa using this))
  by_cases hp2 : p = 2
  · have HE := Lib.hid (HC2.out hp2)
    have g1 : (p == 2) = true := beq_iff_eq.2 hp2
    clear hp2
    go_wp2
    go_ret
    exact ⟨retO_str HE.out.symm, HF2.out⟩
  · have g1 : (p == 2) = false := beq_eq_false_iff_ne.2 hp2
    by_cases hp4 : p = 4
    · have HE := Lib.hid ((HC4.out hp4).trans HBC.out)
      have g2 : (p == 4) = true := beq_iff_eq.2 hp4
      have K2 := Lib.hid (K1.out nm)
      obtain ⟨LS, hLS⟩ : ∃ v, v = (lookB x.bs nm k).1 := ⟨_, rfl⟩
      obtain ⟨LB, hLB⟩ : ∃ v, v = (lookB x.bs nm k).2 := ⟨_, rfl⟩
      rw [← hLS, ← hLB] at K2 HE
      clear hp2 hp4 hLS hLB K1 N1 d1
      go_wp2_with fail
      refine (K2.out _ HF2.out).mono ?_
      rintro e w3 ⟨rfl, h3⟩
      have HF3 := Lib.hid (HF2.out.trans (h3.mono HF2.out.size))
      clear h3 c0 c1 c2 c3 c4
      cases LB
      · replace HE := Lib.hid (HE.out.trans (if_neg (by decide)))
        go_wp2_with fail
        refine (C1.out _).mono ?_
        rintro e w4 ⟨rfl, h4⟩
        have HF4 := Lib.hid (HF3.out.trans (h4.mono HF3.out.size))
        clear h4
        go_wp2
        go_ret
        exact ⟨retO_str HE.out.symm, HF4.out⟩
      · replace HE := Lib.hid (HE.out.trans (if_pos rfl))
        go_wp2
        go_ret
        exact ⟨retO_str HE.out.symm, HF3.out⟩
    · have g2 : (p == 4) = false := beq_eq_false_iff_ne.2 hp4
      by_cases hp3 : p = 3
      · have g3 : (p == 3) = true := beq_iff_eq.2 hp3
        have HE := Lib.hid (HC3.out hp3)
        clear hp2 hp4 hp3 C1 HBC
        go_wp2_with fail
        refine (M1.out _ HF2.out).mono ?_
        rintro e w3 ⟨rfl, h3⟩
        have H3 := Lib.hid (HM.out _ _ H2.out h3)
        clear h3 c0 c1 c2 c3 c4 d1
        obtain ⟨hF3, ⟨c0, c1, c2, c3, c4⟩, d1⟩ := HY.out _ H3.out
        have HF3 := Lib.hid hF3
        clear hF3
        by_cases hm0 : M.size = 0
        · have HE2 := Lib.hid (HE.out.trans (HB0N.out hm0))
          have hme := empty_of hm0
          subst hme
          clear hm0
          go_wp2
          go_ret
          exact ⟨retO_str HE2.out.symm, HF3.out⟩
        · have g0 : M.toList.isEmpty = false := some_list hm0
          have hs1 : M.size + (⟨#[47, 115]⟩ : ByteArray).size ≤ 9223372036854775807 := by have := HMS.out; show M.size + 2 ≤ _; omega
          have hs2 : M.size + (⟨#[47, 100]⟩ : ByteArray).size ≤ 9223372036854775807 := by have := HMS.out; show M.size + 2 ≤ _; omega
          obtain ⟨KEY, hKEY⟩ : ∃ v, v = useKey M SV := ⟨_, rfl⟩
          have HY2 := Lib.hid (HE.out.trans (HBN.out KEY hm0 hKEY.symm))
          have hks : KEY.size ≤ 14 := by
            have := HMS.out
            rw [hKEY]; unfold useKey
            split <;> (rw [ByteArray.size_append]; first | (show M.size + 2 ≤ _; omega))
          obtain ⟨SFX, hSFX, hSV⟩ : ∃ SFX, KEY = M ++ SFX ∧ (((SV == 0) = true ∧ SFX = ⟨#[47, 115]⟩) ∨ ((SV == 0) = false ∧ SFX = ⟨#[47, 100]⟩)) := by
            rw [hKEY]
            by_cases h : SV = 0
            · exact ⟨⟨#[47, 115]⟩, by unfold useKey; rw [if_pos h]; rfl, .inl ⟨beq_iff_eq.2 h, rfl⟩⟩
            · exact ⟨⟨#[47, 100]⟩, by unfold useKey; rw [if_neg h]; rfl, .inr ⟨beq_eq_false_iff_ne.2 h, rfl⟩⟩
          have K2 := Lib.hid (K1.out KEY)
          have N2 := Lib.hid (fun W h => N1.out KEY W hks h)
          obtain ⟨LS, hLS⟩ : ∃ v, v = (lookB x.bs KEY k).1 := ⟨_, rfl⟩
          obtain ⟨LB, hLB⟩ : ∃ v, v = (lookB x.bs KEY k).2 := ⟨_, rfl⟩
          rw [← hLS, ← hLB] at K2 HY2
          rw [← hLB] at N2
          rw [hSFX] at K2 N2
          clear hKEY hLS hLB hm0 K1 N1 hks hSFX HBN HB0N HE
          rcases hSV with ⟨g4, rfl⟩ | ⟨g4, rfl⟩ <;> (
            go_wp2_with fail
            refine (K2.out _ HF3.out).mono ?_
            rintro e w4 ⟨rfl, h4⟩
            have HF4 := Lib.hid (HF3.out.trans (h4.mono HF3.out.size))
            clear h4 c0 c1 c2 c3 c4 d1
            cases LB
            · replace HY2 := Lib.hid (HY2.out.trans (if_neg (by decide)))
              go_wp2
              go_ret
              exact ⟨retO_str HY2.out.symm, HF4.out⟩
            · replace HY2 := Lib.hid (HY2.out.trans (if_pos rfl))
              replace N2 := Lib.hid (fun W => N2.out W rfl)
              go_wp2_with fail
              refine (N2.out _).mono ?_
              rintro e w5 ⟨rfl, rfl⟩
              go_wp2
              go_ret
              exact ⟨retO_str HY2.out.symm, HF4.out⟩)
      · have g3 : (p == 3) = false := beq_eq_false_iff_ne.2 hp3
        have HE := Lib.hid (HC1.out hp2 hp3 hp4)
        clear hp2 hp3 hp4
        go_wp2
        go_ret
        exact ⟨retO_str HE.out.symm, HF2.out⟩
set_option maxRecDepth 100000 in
set_option maxHeartbeats 8000000 in
theorem preR_any (x : Wd) (loc : ByteArray) (t p : Int) (w : World) (hW : WdAt w x) :
    Calls Tryz.prog 38 #[x.val, .string loc, .int .i64 t, .int .i64 p] w fun e w' => e = .returned (.int .i64 (preE x loc p)) ∧ Below w.heap.size w w' := by
  have HX := Lib.hid (fun W (h : Below (w.heap.size + 1) (w.alloc (Wobj x)) W) => boxW hW h)
  have K1 := Lib.hid (fun W (h : Below (w.heap.size + 1) (w.alloc (Wobj x)) W) => worldR_any x W (HX.out W h).2.1)
  have B1 := Lib.hid (fun W (h : Below (w.heap.size + 1) (w.alloc (Wobj x)) W) => bookAt_any x.bA x.bn x.bc x.bs loc W (HX.out W h).2.1.2.2)
  have W1 := Lib.hid (fun W => within_any p 1 4 W)
  have hbb : Below (w.heap.size + 1) (w.alloc (Wobj x)) (w.alloc (Wobj x)) := Below.refl _ _
  unfold WdCells at HX
  unfold Wd.val at *
  clear hW
  by_cases hwe : worldE x = 0
  · rw [hwe] at K1
    go_enter Tryz.func38, Tryz.ntmps38
    go_wp2_with fail
    refine (K1.out _ hbb).mono ?_
    rintro e w1 ⟨rfl, h1⟩
    have H1 := Lib.hid (boxW_more hbb h1)
    obtain ⟨hF, _, c0, c1, c2, c3, c4⟩ := HX.out _ H1.out
    have HF := Lib.hid hF
    clear h1 hbb K1 hF
    by_cases hp : 1 ≤ p ∧ p ≤ 4
    · rw [(withinB_iff p 1 4).2 hp] at W1
      by_cases hbk : bookN x.bs loc < 0
      · have HE := Lib.hid (preE_book hwe hp hbk)
        obtain ⟨BK, hBK⟩ : ∃ v, v = bookN x.bs loc := ⟨_, rfl⟩
        rw [← hBK] at B1 hbk
        have g1 : decide (BK < (0 : Int)) = true := decide_eq_true hbk
        clear hBK hbk hp
        go_wp2_with fail
        refine (W1.out _).mono ?_
        rintro e w2 ⟨rfl, rfl⟩
        go_wp2_with fail
        refine (B1.out _ H1.out).mono ?_
        rintro e w3 ⟨rfl, h3⟩
        have HF3 := Lib.hid (HF.out.trans (h3.mono HF.out.size))
        clear h3 c0 c1 c2 c3 c4
        go_wp2
        go_ret
        exact ⟨ret_int HE.out.symm, HF3.out⟩
      · have HE := Lib.hid (preE_is (loc := loc) hwe hp hbk)
        obtain ⟨BK, hBK⟩ : ∃ v, v = bookN x.bs loc := ⟨_, rfl⟩
        rw [← hBK] at B1 hbk
        have g1 : decide (BK < (0 : Int)) = false := decide_eq_false hbk
        clear hBK hbk hp
        go_wp2_with fail
        refine (W1.out _).mono ?_
        rintro e w2 ⟨rfl, rfl⟩
        go_wp2_with fail
        refine (B1.out _ H1.out).mono ?_
        rintro e w3 ⟨rfl, h3⟩
        have HF3 := Lib.hid (HF.out.trans (h3.mono HF.out.size))
        clear h3 c0 c1 c2 c3 c4
        go_wp2
        go_ret
        exact ⟨ret_int HE.out.symm, HF3.out⟩
    · rw [(withinB_no p 1 4).2 hp] at W1
      have HE := Lib.hid (preE_kind (loc := loc) hwe hp)
      clear hp
      go_wp2_with fail
      refine (W1.out _).mono ?_
      rintro e w2 ⟨rfl, rfl⟩
      go_wp2
      go_ret
      exact ⟨ret_int HE.out.symm, HF.out⟩
  · have HE := Lib.hid (preE_world (loc := loc) (p := p) hwe)
    obtain ⟨E, hE⟩ : ∃ E, E = worldE x := ⟨_, rfl⟩
    rw [← hE] at K1 HE hwe
    have g1 : (E != 0) = true := by simpa using hwe
    clear hE
    go_enter Tryz.func38, Tryz.ntmps38
    go_wp2_with fail
    refine (K1.out _ hbb).mono ?_
    rintro e w1 ⟨rfl, h1⟩
    have HF := Lib.hid (HX.out _ (boxW_more hbb h1)).1
    clear h1 hbb
    go_wp2
    go_ret
    exact ⟨ret_int HE.out.symm, HF.out⟩
end Go.Proofs.YtbbbeldbhlehnaaGreatDoor
end
/-! Plain: the world of the statements, and what its zones are called. -/
section
set_option linter.unusedVariables false
set_option linter.unusedSimpArgs false
namespace Gno
open Go
def gX (e u s : Nat) : Wd := { d := euD e (-1) sOld, uA := some ⟨u, 0, none⟩, un := 2, uc := 2, us := uCall, bA := some ⟨s + 2, 0, none⟩, bn := 2, bc := 2, bs := shelfB s (-1) }
def gZ0 (k : Nat) : Zn := ⟨sOld, some ⟨k + 3, 0, none⟩, 2, 2, [⟨1800, -1, 0, sLMT, 500000000⟩, ⟨3600, 0, 0, sCEsT, 1893456000⟩]⟩
def gZ1 (k : Nat) : Zn := ⟨sAW, some ⟨k + 4, 0, none⟩, 1, 1, [⟨-18000, -1, 3600, sXT, 1893456000⟩]⟩
theorem gX_world (e u s : Nat) : worldE (gX e u s) = 0 := by
  unfold worldE
  rw [show usesE (gX e u s).d (gX e u s).us = 0 from eu_call e, if_neg (by simp)]
  exact shelf_ok s
theorem gX_right (e u s : Nat) : RightW (gX e u s) := rightW_of (gX_world e u s)
theorem g_pre {e u s : Nat} {loc : ByteArray} {p k : Int} (h : bookN (shelfB s (-1)) loc = k) (hk : 0 ≤ k) (hp : 1 ≤ p ∧ p ≤ 4) : preE (gX e u s) loc p = 0 := by
  refine preE_is (gX_world e u s) hp ?_
  show ¬ bookN (shelfB s (-1)) loc < 0
  omega
theorem g_name {e u s : Nat} {loc nm T : ByteArray} {t p k : Int} {i : Nat} {z : Zn} (h : bookN (shelfB s (-1)) loc = k) (hk : 0 ≤ k) (hp : 1 ≤ p ∧ p ≤ 4) (hl : leadN (euD e (-1) sOld) nm = (i : Int)) (hz : (euD e (-1) sOld).zs[i]? = some z) (ht : 0 ≤ t ∧ t < 1893456000) (hT : calledZ (gX e u s) k z t p = T) :
    nameE (gX e u s) loc nm t p = 0 ∧ nameT (gX e u s) loc nm t p = T := by
  have hE : nameE (gX e u s) loc nm t p = 0 := nameE_is (g_pre h hk hp) (by show 0 ≤ leadN (euD e (-1) sOld) nm; omega) ht
  refine ⟨hE, ?_⟩
  rw [nameT_is hE (z := z) (by show (euD e (-1) sOld).zs[(leadN (euD e (-1) sOld) nm).toNat]? = _; rw [hl, Int.toNat_natCast]; exact hz)]
  rw [show bookN (gX e u s).bs loc = k from h]
  exact hT
theorem g_sv0 (k : Nat) : offSv (euD k (-1) sOld) (eraOf (gZ0 k) 1585443600) 1585443600 = 3600 := by
  obtain ⟨h0, _, h2, _⟩ := eu_a k
  have hz := eu_lead (k := k) (nm := sTown) (v := 0) (by kernel_rfl) (by omega)
  rw [← (at_good h0 (z := gZ0 k) (by rw [hz.1]; rfl)).2.1]; exact h2
theorem g_sv1 (k : Nat) : offSv (euD k (-1) sOld) (eraOf (gZ0 k) 1585443599) 1585443599 = 0 := by
  obtain ⟨h0, _, h2, _⟩ := eu_b k
  have hz := eu_lead (k := k) (nm := sTt) (v := 0) (by kernel_rfl) (by omega)
  rw [← (at_good h0 (z := gZ0 k) (by rw [hz.1]; rfl)).2.1]; exact h2
theorem g_to0 (k : Nat) : offTo (euD k (-1) sOld) (eraOf (gZ0 k) 7) 7 = 1800 := by
  obtain ⟨h0, h1, _, _⟩ := eu_c k
  have hz := eu_lead (k := k) (nm := sOld) (v := 0) (by kernel_rfl) (by omega)
  rw [← (at_good h0 (z := gZ0 k) (by rw [hz.1]; rfl)).1]; exact h1
theorem g_to1 (k : Nat) : offTo (euD k (-1) sOld) (eraOf (gZ1 k) 7) 7 = -14400 := by
  obtain ⟨h0, h1, _, _⟩ := eu_d k
  have hz := eu_lead (k := k) (nm := sAW) (v := 1) (by kernel_rfl) (by omega)
  rw [← (at_good h0 (z := gZ1 k) (by rw [hz.1]; rfl)).1]; exact h1
def tGMT030 : ByteArray := ⟨#[71, 77, 84, 43, 48, 58, 51, 48]⟩
def tGMTm4 : ByteArray := ⟨#[71, 77, 84, 45, 52]⟩
def tOldTown : ByteArray := ⟨#[79, 108, 100, 32, 84, 111, 119, 110]⟩
theorem g_off0 (k : Nat) : offS (euD k (-1) sOld) (gZ0 k) 7 = tGMT030 := by
  unfold offS offN
  rw [g_to0]
  kernel_rfl
theorem g_off1 (k : Nat) : offS (euD k (-1) sOld) (gZ1 k) 7 = tGMTm4 := by
  unfold offS offN
  rw [g_to1]
  kernel_rfl
theorem g_n1 (e u s : Nat) : nameE (gX e u s) sXx sTt 1585443600 3 = 0 ∧ nameT (gX e u s) sXx sTt 1585443600 3 = sMDT := by
  refine g_name (k := 1) (i := 0) (z := gZ0 e) (by kernel_rfl) (by omega) (by omega) (by kernel_rfl) rfl (by omega) ?_
  rw [called_name rfl, byName_yes (key := sMidD) (show (metaU (gX e u s).us (gZ0 e).name 1585443600).size ≠ 0 from by rw [show metaU (gX e u s).us (gZ0 e).name 1585443600 = sMid from by kernel_rfl]; decide) (by rw [show (gX e u s).d = euD e (-1) sOld from rfl, g_sv0]; kernel_rfl)]
  kernel_rfl
theorem g_n2 (e u s : Nat) : nameE (gX e u s) sXx sTt 1585443599 3 = 0 ∧ nameT (gX e u s) sXx sTt 1585443599 3 = smst := by
  refine g_name (k := 1) (i := 0) (z := gZ0 e) (by kernel_rfl) (by omega) (by omega) (by kernel_rfl) rfl (by omega) ?_
  rw [called_name rfl, byName_yes (key := sMidS) (show (metaU (gX e u s).us (gZ0 e).name 1585443599).size ≠ 0 from by rw [show metaU (gX e u s).us (gZ0 e).name 1585443599 = sMid from by kernel_rfl]; decide) (by rw [show (gX e u s).d = euD e (-1) sOld from rfl, g_sv1]; kernel_rfl)]
  kernel_rfl
theorem g_n3 (e u s : Nat) : nameE (gX e u s) sXx sTt 7 3 = 0 ∧ nameT (gX e u s) sXx sTt 7 3 = tGMT030 := by
  refine g_name (k := 1) (i := 0) (z := gZ0 e) (by kernel_rfl) (by omega) (by omega) (by kernel_rfl) rfl (by omega) ?_
  rw [called_name rfl, byName_no (by kernel_rfl)]
  exact g_off0 e
theorem g_n4 (e u s : Nat) : nameE (gX e u s) sRoot sTown 7 4 = 0 ∧ nameT (gX e u s) sRoot sTown 7 4 = tOldTown := by
  refine g_name (k := 0) (i := 0) (z := gZ0 e) (by kernel_rfl) (by omega) (by omega) (by kernel_rfl) rfl (by omega) ?_
  rw [called_city rfl]
  kernel_rfl
theorem g_n5 (e u s : Nat) : nameE (gX e u s) sXx sAW 7 4 = 0 ∧ nameT (gX e u s) sXx sAW 7 4 = sWest := by
  refine g_name (k := 1) (i := 1) (z := gZ1 e) (by kernel_rfl) (by omega) (by omega) (by kernel_rfl) rfl (by omega) ?_
  rw [called_city rfl]
  kernel_rfl
theorem g_n6 (e u s : Nat) : nameE (gX e u s) sRoot sAW 7 1 = 0 ∧ nameT (gX e u s) sRoot sAW 7 1 = tGMTm4 := by
  refine g_name (k := 0) (i := 1) (z := gZ1 e) (by kernel_rfl) (by omega) (by omega) (by kernel_rfl) rfl (by omega) ?_
  rw [called_off (by decide) (by decide) (by decide)]
  exact g_off1 e
theorem g_n7 (e u s : Nat) : nameE (gX e u s) sRoot sTt 7 5 = 8 ∧ nameT (gX e u s) sRoot sTt 7 5 = ⟨#[]⟩ := by
  have hp : preE (gX e u s) sRoot 5 = 8 := preE_kind (gX_world e u s) (by omega)
  have hE : nameE (gX e u s) sRoot sTt 7 5 = 8 := by rw [nameE_pre (by rw [hp]; decide)]; exact hp
  exact ⟨hE, nameT_bad (by rw [hE]; decide)⟩
theorem g_city : citySt ⟨#[65, 47, 98, 95, 99, 47, 100, 95, 101]⟩ = ⟨#[100, 32, 101]⟩ ∧ cityE ⟨#[65, 47, 98, 95, 99, 47, 100, 95, 101]⟩ = 0 := ⟨by kernel_rfl, by kernel_rfl⟩
end Gno
end
/-! globe(): the call. -/
section
set_option linter.unusedVariables false
set_option linter.unusedSimpArgs false
namespace Go.Proofs.YtbbbeldbhlehnaaGreatDoor
open Go.RowKit Gno
theorem gX_at {W : World} {e u s : Nat} (h1 : EuIn W e (-1) sOld) (h2 : e + 7 ≤ W.heap.size) (h3 : W.heap[u]? = some calO) (h4 : ShelfIn W s (-1)) (h5 : s + 2 < W.heap.size) : WdAt W (gX e u s) :=
  ⟨eu_data h1 h2 old_le, cal_at h3, shelf_at h4 h5⟩
theorem setCell_heap {W : World} {b o b' : Nat} {v : Value} (h : b ≠ b') : (W.setCell ⟨b, o, none⟩ v).heap[b']? = W.heap[b']? := by
  unfold World.setCell
  simp [Array.getElem?_modify, h]
theorem gX_like {V W : World} {b e u s : Nat} (h : ∀ c, b ≠ c → V.heap[c]? = W.heap[c]?) (hs : V.heap.size = W.heap.size) (he : b < e) (hu : b < u) (hS : b < s)
    (H : EuIn W e (-1) sOld ∧ e + 7 ≤ W.heap.size ∧ W.heap[u]? = some calO ∧ ShelfIn W s (-1) ∧ s + 2 < W.heap.size) : WdAt V (gX e u s) := by
  obtain ⟨h1, h2, h3, h4, h5⟩ := H
  refine gX_at ⟨?_, ?_, ?_, ?_, ?_, ?_⟩ (by omega) ?_ ⟨?_, ?_, ?_⟩ (by omega)
  · rw [h _ (by omega)]; exact h1.o1
  · rw [h _ (by omega)]; exact h1.o2
  · rw [h _ (by omega)]; exact h1.o3
  · rw [h _ (by omega)]; exact h1.o4
  · rw [h _ (by omega)]; exact h1.o5
  · rw [h _ (by omega)]; exact h1.o6
  · rw [h _ (by omega)]; exact h3
  · intro j c hj; rw [World.cell?_of_block (h (s + 0) (by omega))]; exact h4.1 j c hj
  · intro j c hj; rw [World.cell?_of_block (h (s + 1) (by omega))]; exact h4.2.1 j c hj
  · intro j c hj; rw [World.cell?_of_block (h (s + 2) (by omega))]; exact h4.2.2 j c hj
set_option maxRecDepth 100000 in
set_option maxHeartbeats 8000000 in
theorem globe_any (w : World) : Calls Tryz.prog 47 #[] w fun e w' => ∃ a u s, e = .returned (gX a u s).val ∧ WdAt w' (gX a u s) ∧ Below w.heap.size w w' := by
  obtain ⟨w1, hw1⟩ : ∃ v, v = w.alloc (.cells #[.slice none 0 0, .slice none 0 0, .slice none 0 0, .slice none 0 0, .slice none 0 0] 30) := ⟨_, rfl⟩
  have hz1 : w1.heap.size = w.heap.size + 1 := by rw [hw1]; simp
  have hb1 : Below w.heap.size w w1 := by rw [hw1]; exact (Below.refl _ _).alloc (Nat.le_refl _) _
  have hk1 : w1.heap[w.heap.size]? = some (.cells #[.slice none 0 0, .slice none 0 0, .slice none 0 0, .slice none 0 0, .slice none 0 0] 30) := by rw [hw1]; exact World.alloc_heap_new w _
  obtain ⟨hc1, hc2, hc3⟩ := ec_ctx w1
  obtain ⟨W3, hW3⟩ : ∃ v, v = shelfW (ecW w1) := ⟨_, rfl⟩
  have hs := shelfW_below (ecW w1)
  have hsz := shelfW_size (ecW w1)
  have hsi := shelfW_in (ecW w1)
  rw [← hW3] at hs hsz hsi
  have heb : Below w1.heap.size w1 (ecW w1) := ec_next (Below.refl _ _)
  have hb3 : Below w1.heap.size w1 W3 := heb.trans (hs.mono heb.size)
  have hu : (euW w1).heap.size < (ecW w1).heap.size := (Array.getElem?_eq_some_iff.1 hc3).1
  have HE : Hid (EuIn W3 w1.heap.size (-1) sOld ∧ w1.heap.size + 7 ≤ W3.heap.size ∧ W3.heap[(euW w1).heap.size]? = some calO ∧ ShelfIn W3 (ecW w1).heap.size (-1) ∧ (ecW w1).heap.size + 2 < W3.heap.size) :=
    Lib.hid ⟨hc1.below hs hc2, by have := hs.size; omega, (hs.block _ hu).trans hc3, hsi, by omega⟩
  have hk3 : W3.heap[w.heap.size]? = some (.cells #[.slice none 0 0, .slice none 0 0, .slice none 0 0, .slice none 0 0, .slice none 0 0] 30) := (hb3.block _ (by omega)).trans hk1
  have SP := Lib.hid (eu_mk w1)
  have CL := Lib.hid (called_any (euW w1))
  have SH := Lib.hid (shelf_any (ecW w1))
  rw [← hW3] at SH
  have HBW : Hid (Below w.heap.size w W3) := Lib.hid (hb1.trans (hb3.mono (by omega)))
  have HK3 := Lib.hid hk3
  have HZ1 := Lib.hid hz1
  have k0 := cell_of (o := 0) hk3 rfl
  have k1 := cell_of (o := 1) hk3 rfl
  have k2 := cell_of (o := 2) hk3 rfl
  have k3 := cell_of (o := 3) hk3 rfl
  have k4 := cell_of (o := 4) hk3 rfl
  have f0 := frozen_of (o := 0) hk3
  have f1 := frozen_of (o := 1) hk3
  have f2 := frozen_of (o := 2) hk3
  have f3 := frozen_of (o := 3) hk3
  have f4 := frozen_of (o := 4) hk3
  obtain ⟨E, hE⟩ : ∃ v, v = w1.heap.size := ⟨_, rfl⟩
  obtain ⟨U, hU⟩ : ∃ v, v = (euW w1).heap.size := ⟨_, rfl⟩
  obtain ⟨S, hS⟩ : ∃ v, v = (ecW w1).heap.size := ⟨_, rfl⟩
  rw [← hE] at SP
  rw [← hU] at CL
  rw [← hS] at SH
  rw [← hE, ← hU, ← hS] at HE
  obtain ⟨W2, hW2⟩ : ∃ v, v = ecW w1 := ⟨_, rfl⟩
  obtain ⟨W1, hW1⟩ : ∃ v, v = euW w1 := ⟨_, rfl⟩
  have CL' : Hid (Calls Tryz.prog 88 #[] W1 fun e w' => e = .returned (.slice (some ⟨U, 0, none⟩) 2 2) ∧ w' = W2) := Lib.hid (by rw [hW1, hW2]; exact CL.out)
  rw [← hW2] at SH
  rw [← hW1] at SP
  have HE1 : Hid (w.heap.size < E ∧ w.heap.size < U ∧ w.heap.size < S) := Lib.hid ⟨by rw [hE]; omega, by rw [hU, euW_size]; omega, by rw [hS]; have := heb.size; omega⟩
  clear hb1 hk1 hc1 hc2 hc3 hs hsz hsi heb hb3 hu hk3 CL hE hU hS hW3 hW2 hW1 hz1
  go_enter Tryz.func47, Tryz.ntmps47
  go_wp2_with fail
  rw [← hw1]
  refine SP.out.mono ?_
  rintro e w' ⟨rfl, rfl⟩
  go_wp2_with fail
  refine CL'.out.mono ?_
  rintro e w' ⟨rfl, rfl⟩
  go_wp2_with fail
  refine SH.out.mono ?_
  rintro e w' ⟨rfl, rfl⟩
  go_wp2
  refine bodyPost_ret (results_cell_row rfl _ _ w.heap.size 30 _ (0, 0) _ rfl (set_obj (set_obj (set_obj (set_obj (set_obj HK3.out _) _) _) _) _) Tryz.underlying30 rfl (by kernel_rfl)) rfl ⟨E, U, S, rfl, ?_, ((((HBW.out.setCell (Nat.le_refl _) _).setCell (Nat.le_refl _) _).setCell (Nat.le_refl _) _).setCell (Nat.le_refl _) _).setCell (Nat.le_refl _) _⟩
  exact gX_like (b := w.heap.size) (W := w') (fun c hc => by rw [setCell_heap hc, setCell_heap hc, setCell_heap hc, setCell_heap hc, setCell_heap hc]) (by simp) HE1.out.1 HE1.out.2.1 HE1.out.2.2 HE.out
end Go.Proofs.YtbbbeldbhlehnaaGreatDoor
end
/-! namesBegun. -/
section
set_option linter.unusedVariables false
set_option linter.unusedSimpArgs false
namespace Go.Proofs.YtbbbeldbhlehnaaGreatDoor
open Go.RowKit Gno
theorem nb_name {w0 W : World} {a u s : Nat} {loc nm T : ByteArray} {t p e : Int} (hb : Below w0.heap.size w0 W) (hM : MaxAt w0 w0.heap.size) (hW : WdAt W (gX a u s)) (hp : (Lit.int .i64 p).wf = true) (h : nameE (gX a u s) loc nm t p = e ∧ nameT (gX a u s) loc nm t p = T) :
    Calls Tryz.prog 11 #[(gX a u s).val, .string loc, .string nm, .int .i64 t, .int .i64 p] W fun e' w' => e' = .returned (.tuple #[.string T, .int .i64 e]) ∧ Below w0.heap.size w0 w' := by
  have := nameP_any (gX a u s) loc nm t p W hW (hM.next hb) hp
  rw [h.1, h.2] at this
  exact this.mono fun _ _ q => ⟨q.1, hb.trans (q.2.mono hb.size)⟩
theorem nb_globe {w0 W : World} (hb : Below w0.heap.size w0 W) : Calls Tryz.prog 47 #[] W fun e w' => ∃ a u s, e = .returned (gX a u s).val ∧ WdAt w' (gX a u s) ∧ Below w0.heap.size w0 w' :=
  (globe_any W).mono fun _ _ ⟨a, u, s, h1, h2, h3⟩ => ⟨a, u, s, h1, h2, hb.trans (h3.mono hb.size)⟩
theorem nb_check {w0 W : World} {a u s : Nat} (hb : Below w0.heap.size w0 W) (hM : MaxAt w0 w0.heap.size) (hW : WdAt W (gX a u s)) :
    Calls Tryz.prog 17 #[(gX a u s).val] W fun e' w' => e' = .returned (.int .i64 0) ∧ Below w0.heap.size w0 w' := by
  have := worldCk_any (gX a u s) W hW (hM.next hb)
  rw [gX_world] at this
  exact this.mono fun _ _ q => ⟨q.1, hb.trans (q.2.mono hb.size)⟩
theorem nb_city {w0 W : World} (hb : Below w0.heap.size w0 W) (hM : MaxAt w0 w0.heap.size) :
    Calls Tryz.prog 13 #[.string ⟨#[65, 47, 98, 95, 99, 47, 100, 95, 101]⟩] W fun e' w' => e' = .returned (.tuple #[.string ⟨#[100, 32, 101]⟩, .int .i64 0]) ∧ Below w0.heap.size w0 w' := by
  have := cityPub_any ⟨#[65, 47, 98, 95, 99, 47, 100, 95, 101]⟩ W (show (9 : Nat) ≤ maxLen by unfold maxLen; omega) (hM.next hb)
  rw [g_city.1, g_city.2] at this
  exact this.mono fun _ _ q => ⟨q.1, hb.trans (q.2.mono hb.size)⟩
set_option maxRecDepth 100000 in
set_option maxHeartbeats 16000000 in
theorem namesBegun_any (w : World) (hM : MaxAt w w.heap.size) :
    Calls Tryz.prog 16 #[] w fun e w' => e = .returned (.bool true) ∧ Below w.heap.size w w' := by
  have GL := Lib.hid (fun W (h : Below w.heap.size w W) => nb_globe h)
  have N1 := Lib.hid (fun W a u s (h : Below w.heap.size w W) (hW : WdAt W (gX a u s)) => nb_name (loc := ⟨#[120, 120]⟩) (nm := ⟨#[84]⟩) (T := ⟨#[77, 68, 84]⟩) (t := 1585443600) (p := 3) (e := 0) h hM hW (by decide) (g_n1 a u s))
  have N2 := Lib.hid (fun W a u s (h : Below w.heap.size w W) (hW : WdAt W (gX a u s)) => nb_name (loc := ⟨#[120, 120]⟩) (nm := ⟨#[84]⟩) (T := ⟨#[109, 115, 116]⟩) (t := 1585443599) (p := 3) (e := 0) h hM hW (by decide) (g_n2 a u s))
  have N3 := Lib.hid (fun W a u s (h : Below w.heap.size w W) (hW : WdAt W (gX a u s)) => nb_name (loc := ⟨#[120, 120]⟩) (nm := ⟨#[84]⟩) (T := ⟨#[71, 77, 84, 43, 48, 58, 51, 48]⟩) (t := 7) (p := 3) (e := 0) h hM hW (by decide) (g_n3 a u s))
  have N4 := Lib.hid (fun W a u s (h : Below w.heap.size w W) (hW : WdAt W (gX a u s)) => nb_name (loc := ⟨#[114, 111, 111, 116]⟩) (nm := ⟨#[84, 111, 119, 110]⟩) (T := ⟨#[79, 108, 100, 32, 84, 111, 119, 110]⟩) (t := 7) (p := 4) (e := 0) h hM hW (by decide) (g_n4 a u s))
  have N5 := Lib.hid (fun W a u s (h : Below w.heap.size w W) (hW : WdAt W (gX a u s)) => nb_name (loc := ⟨#[120, 120]⟩) (nm := ⟨#[65, 47, 87, 101, 115, 116]⟩) (T := ⟨#[87, 101, 115, 116]⟩) (t := 7) (p := 4) (e := 0) h hM hW (by decide) (g_n5 a u s))
  have N6 := Lib.hid (fun W a u s (h : Below w.heap.size w W) (hW : WdAt W (gX a u s)) => nb_name (loc := ⟨#[114, 111, 111, 116]⟩) (nm := ⟨#[65, 47, 87, 101, 115, 116]⟩) (T := ⟨#[71, 77, 84, 45, 52]⟩) (t := 7) (p := 1) (e := 0) h hM hW (by decide) (g_n6 a u s))
  have N7 := Lib.hid (fun W a u s (h : Below w.heap.size w W) (hW : WdAt W (gX a u s)) => nb_name (loc := ⟨#[114, 111, 111, 116]⟩) (nm := ⟨#[84]⟩) (T := ⟨#[]⟩) (t := 7) (p := 5) (e := 8) h hM hW (by decide) (g_n7 a u s))
  have CK := Lib.hid (fun W a u s (h : Below w.heap.size w W) (hW : WdAt W (gX a u s)) => nb_check h hM hW)
  have CT := Lib.hid (fun W (h : Below w.heap.size w W) => nb_city h hM)
  have HB := Lib.hid (Below.refl w.heap.size w)
  clear hM
  go_enter Tryz.func16, Tryz.ntmps16
  go_wp2_with fail
  refine (GL.out _ HB.out).mono ?_
  rintro e w1a ⟨a1, u1, s1, rfl, hw1, hb1⟩
  replace HB := Lib.hid hb1
  have HW1 := Lib.hid hw1
  clear hb1 hw1
  go_wp2_with fail
  refine (N1.out _ _ _ _ HB.out HW1.out).mono ?_
  rintro e w1b ⟨rfl, hb1⟩
  replace HB := Lib.hid hb1
  clear hb1 HW1 N1
  go_wp2_with fail
  refine (GL.out _ HB.out).mono ?_
  rintro e w2a ⟨a2, u2, s2, rfl, hw2, hb2⟩
  replace HB := Lib.hid hb2
  have HW2 := Lib.hid hw2
  clear hb2 hw2
  go_wp2_with fail
  refine (N2.out _ _ _ _ HB.out HW2.out).mono ?_
  rintro e w2b ⟨rfl, hb2⟩
  replace HB := Lib.hid hb2
  clear hb2 HW2 N2
  go_wp2_with fail
  refine (GL.out _ HB.out).mono ?_
  rintro e w3a ⟨a3, u3, s3, rfl, hw3, hb3⟩
  replace HB := Lib.hid hb3
  have HW3 := Lib.hid hw3
  clear hb3 hw3
  go_wp2_with fail
  refine (N3.out _ _ _ _ HB.out HW3.out).mono ?_
  rintro e w3b ⟨rfl, hb3⟩
  replace HB := Lib.hid hb3
  clear hb3 HW3 N3
  go_wp2_with fail
  refine (GL.out _ HB.out).mono ?_
  rintro e w4a ⟨a4, u4, s4, rfl, hw4, hb4⟩
  replace HB := Lib.hid hb4
  have HW4 := Lib.hid hw4
  clear hb4 hw4
  go_wp2_with fail
  refine (N4.out _ _ _ _ HB.out HW4.out).mono ?_
  rintro e w4b ⟨rfl, hb4⟩
  replace HB := Lib.hid hb4
  clear hb4 HW4 N4
  go_wp2_with fail
  refine (GL.out _ HB.out).mono ?_
  rintro e w5a ⟨a5, u5, s5, rfl, hw5, hb5⟩
  replace HB := Lib.hid hb5
  have HW5 := Lib.hid hw5
  clear hb5 hw5
  go_wp2_with fail
  refine (N5.out _ _ _ _ HB.out HW5.out).mono ?_
  rintro e w5b ⟨rfl, hb5⟩
  replace HB := Lib.hid hb5
  clear hb5 HW5 N5
  go_wp2_with fail
  refine (GL.out _ HB.out).mono ?_
  rintro e w6a ⟨a6, u6, s6, rfl, hw6, hb6⟩
  replace HB := Lib.hid hb6
  have HW6 := Lib.hid hw6
  clear hb6 hw6
  go_wp2_with fail
  refine (N6.out _ _ _ _ HB.out HW6.out).mono ?_
  rintro e w6b ⟨rfl, hb6⟩
  replace HB := Lib.hid hb6
  clear hb6 HW6 N6
  go_wp2_with fail
  refine (GL.out _ HB.out).mono ?_
  rintro e w7a ⟨a7, u7, s7, rfl, hw7, hb7⟩
  replace HB := Lib.hid hb7
  have HW7 := Lib.hid hw7
  clear hb7 hw7
  go_wp2_with fail
  refine (N7.out _ _ _ _ HB.out HW7.out).mono ?_
  rintro e w7b ⟨rfl, hb7⟩
  replace HB := Lib.hid hb7
  clear hb7 HW7 N7
  go_wp2_with fail
  refine (CT.out _ HB.out).mono ?_
  rintro e w8 ⟨rfl, hb8⟩
  replace HB := Lib.hid hb8
  clear hb8
  go_wp2_with fail
  refine (GL.out _ HB.out).mono ?_
  rintro e w9a ⟨a9, u9, s9, rfl, hw9, hb9⟩
  replace HB := Lib.hid hb9
  have HW9 := Lib.hid hw9
  clear hb9 hw9
  go_wp2_with fail
  refine (CK.out _ _ _ _ HB.out HW9.out).mono ?_
  rintro e w9b ⟨rfl, hb9⟩
  replace HB := Lib.hid hb9
  clear hb9
  go_wp2
  go_ret
  exact ⟨rfl, HB.out⟩
end Go.Proofs.YtbbbeldbhlehnaaGreatDoor
end
/-! The reference's NameOf. -/
section
set_option linter.unusedVariables false
set_option linter.unusedSimpArgs false
namespace Go.Proofs.YtbbbeldbhlehnaaGreatDoor
open Go.RowKit Gno
theorem ret_si {a b : ByteArray} {c d : Int} (h1 : a = b) (h2 : c = d) : Ending.returned (.tuple #[.string a, .int .i64 c]) = .returned (.tuple #[.string b, .int .i64 d]) := by rw [h1, h2]
set_option maxRecDepth 100000 in
set_option maxHeartbeats 8000000 in
theorem nameR_any (x : Wd) (loc nm : ByteArray) (t p : Int) (w : World) (hW : WdAt w x) (hM : MaxAt w w.heap.size) :
    Calls Tryz.prog 12 #[x.val, .string loc, .string nm, .int .i64 t, .int .i64 p] w fun e w' => e = .returned (.tuple #[.string (nameT x loc nm t p), .int .i64 (nameE x loc nm t p)]) ∧ Below w.heap.size w w' := by
  have HX := Lib.hid (fun W (h : Below (w.heap.size + 1) (w.alloc (Wobj x)) W) => boxW hW h)
  have K1 := Lib.hid (fun W (h : Below (w.heap.size + 1) (w.alloc (Wobj x)) W) => preR_any x loc t p W (HX.out W h).2.1)
  have L1 := Lib.hid (fun W (h : Below (w.heap.size + 1) (w.alloc (Wobj x)) W) => follow_any x.d nm W (HX.out W h).2.1.1)
  have B1 := Lib.hid (fun W (h : Below (w.heap.size + 1) (w.alloc (Wobj x)) W) => (bookAt_any x.bA x.bn x.bc x.bs loc W (HX.out W h).2.1.2.2).mono fun _ _ q => (⟨q.1, boxW_more h q.2⟩ : _ ∧ Below (w.heap.size + 1) (w.alloc (Wobj x)) _))
  have C1 := Lib.hid (fun W (h : Below (w.heap.size + 1) (w.alloc (Wobj x)) W) k i z (hR : RightW x) hk hk2 hz ht => (calledR_any x k t p i z W (HX.out W h).2.1 (hM.next (HX.out W h).1) hR hk hk2 hz ht).mono fun _ _ q => (⟨q.1, boxW_more h q.2⟩ : _ ∧ Below (w.heap.size + 1) (w.alloc (Wobj x)) _))
  have hbb : Below (w.heap.size + 1) (w.alloc (Wobj x)) (w.alloc (Wobj x)) := Below.refl _ _
  have hbn : bookN x.bs loc < x.bn := by have := (bookN_range x.bs loc).2; rw [hW.2.2.1] at this; exact this
  unfold WdCells at HX
  unfold Dt.val at L1
  unfold Wd.val at *
  clear hW hM
  by_cases hpe : preE x loc p = 0
  · rw [hpe] at K1
    by_cases hl : leadN x.d nm < 0
    · have HE := Lib.hid (nameE_none (t := t) hpe hl)
      have HT := Lib.hid (nameT_bad (x := x) (loc := loc) (nm := nm) (t := t) (p := p) (by rw [HE.out]; decide))
      obtain ⟨K, hK⟩ : ∃ v, v = leadN x.d nm := ⟨_, rfl⟩
      rw [← hK] at L1 hl
      have g1 : decide (K < (0 : Int)) = true := decide_eq_true hl
      clear hK hl hpe C1 B1
      go_enter Tryz.func12, Tryz.ntmps12
      go_wp2_with fail
      refine (K1.out _ hbb).mono ?_
      rintro e w1 ⟨rfl, h1⟩
      have H1 := Lib.hid (boxW_more hbb h1)
      obtain ⟨_, _, c0, c1, c2, c3, c4⟩ := HX.out _ H1.out
      clear h1 hbb K1
      go_wp2_with fail
      refine (L1.out _ H1.out).mono ?_
      rintro e w2 ⟨rfl, h2⟩
      have HF := Lib.hid (HX.out _ (boxW_more H1.out h2)).1
      clear h2 c0 c1 c2 c3 c4
      go_wp2
      go_ret2
      exact ⟨ret_si HT.out.symm HE.out.symm, HF.out⟩
    · by_cases ht : t < 0 ∨ 1893456000 ≤ t
      · have HE := Lib.hid (nameE_time hpe hl ht)
        have HT := Lib.hid (nameT_bad (x := x) (loc := loc) (nm := nm) (t := t) (p := p) (by rw [HE.out]; decide))
        have IT : Hid (∀ w, Calls Tryz.prog 40 #[.int .i64 t] w fun e w' => e = .returned (.bool false) ∧ w = w') := Lib.hid (fun w => by
          have := isTime_any t w
          rwa [show timeOk t = false by unfold timeOk; exact (withinB_no _ _ _).2 (by omega)] at this)
        obtain ⟨K, hK⟩ : ∃ v, v = leadN x.d nm := ⟨_, rfl⟩
        rw [← hK] at L1 hl
        have g1 : decide (K < (0 : Int)) = false := decide_eq_false hl
        clear hK hl hpe ht C1 B1
        go_enter Tryz.func12, Tryz.ntmps12
        go_wp2_with fail
        refine (K1.out _ hbb).mono ?_
        rintro e w1 ⟨rfl, h1⟩
        have H1 := Lib.hid (boxW_more hbb h1)
        obtain ⟨_, _, c0, c1, c2, c3, c4⟩ := HX.out _ H1.out
        clear h1 hbb K1
        go_wp2_with fail
        refine (L1.out _ H1.out).mono ?_
        rintro e w2 ⟨rfl, h2⟩
        have HF := Lib.hid (HX.out _ (boxW_more H1.out h2)).1
        clear h2 c0 c1 c2 c3 c4
        go_wp2_with fail
        refine (IT.out _).mono ?_
        rintro e w3 ⟨rfl, rfl⟩
        go_wp2
        go_ret2
        exact ⟨ret_si HT.out.symm HE.out.symm, HF.out⟩
      · have hE : nameE x loc nm t p = 0 := nameE_is hpe (by omega) (by omega)
        obtain ⟨z, hN⟩ := nameE_zero hE
        obtain ⟨i, hi⟩ : ∃ i : Nat, leadN x.d nm = (i : Int) := ⟨(leadN x.d nm).toNat, by omega⟩
        have hzz := hN.hz
        rw [hi, Int.toNat_natCast] at hzz
        have C2 := Lib.hid (fun W h => C1.out W h (bookN x.bs loc) i z hN.right (by have := hN.book; omega) hbn hzz hN.time.2)
        rw [← hN.told] at C2
        have IT : Hid (∀ w, Calls Tryz.prog 40 #[.int .i64 t] w fun e w' => e = .returned (.bool true) ∧ w = w') := Lib.hid (fun w => by
          have := isTime_any t w
          rwa [show timeOk t = true by unfold timeOk; exact (withinB_iff _ _ _).2 (by omega)] at this)
        obtain ⟨T, hT⟩ : ∃ T, T = nameT x loc nm t p := ⟨_, rfl⟩
        obtain ⟨BK, hBK⟩ : ∃ v, v = bookN x.bs loc := ⟨_, rfl⟩
        rw [← hT] at C2 ⊢
        rw [← hBK] at C2 B1
        rw [hE]
        rw [hi] at L1
        clear hBK hT hN hE hzz hi hl hpe ht C1 hbn
        go_enter Tryz.func12, Tryz.ntmps12
        go_wp2_with fail
        refine (K1.out _ hbb).mono ?_
        rintro e w1 ⟨rfl, h1⟩
        have H1 := Lib.hid (boxW_more hbb h1)
        obtain ⟨_, _, c0, c1, c2, c3, c4⟩ := HX.out _ H1.out
        clear h1 hbb K1
        go_wp2_with fail
        refine (L1.out _ H1.out).mono ?_
        rintro e w2 ⟨rfl, h2⟩
        have H2 := Lib.hid (boxW_more H1.out h2)
        clear h2 c0 c1 c2 c3 c4 H1
        go_wp2_with fail
        refine (IT.out _).mono ?_
        rintro e w3 ⟨rfl, rfl⟩
        go_wp2_with fail
        have HD := Lib.hid H2.out.drew
        obtain ⟨_, _, c0, c1, c2, c3, c4⟩ := HX.out _ HD.out
        go_region_held3 (fun w' => Below (w.heap.size + 1) (w.alloc (Wobj x)) w' ∧ w'.cell? ⟨w.heap.size, 0, none⟩ = some (.slice x.d.sA x.d.sn x.d.sc) ∧ w'.cell? ⟨w.heap.size, 1, none⟩ = some (.slice x.d.zA x.d.zn x.d.zc) ∧ w'.cell? ⟨w.heap.size, 2, none⟩ = some (.slice x.d.lA x.d.ln x.d.lc) ∧ w'.cell? ⟨w.heap.size, 3, none⟩ = some (.slice x.uA x.un x.uc) ∧ w'.cell? ⟨w.heap.size, 4, none⟩ = some (.slice x.bA x.bn x.bc))
          (refine ⟨?_, ?_, ?_, ?_, ?_, ?_⟩ <;> (first | assumption | exact HD.out | exact Below.drew (by assumption) | go_keep))
          (first
            | (go_at_call 42; refine (B1.out _ (by first | assumption | exact HD.out)).mono ?_; rintro e w5 ⟨rfl, hb5⟩; clear c0 c1 c2 c3 c4; obtain ⟨_, _, c0, c1, c2, c3, c4⟩ := HX.out _ hb5)
            | (go_at_call 41; refine (C2.out _ (by first | assumption | exact HD.out)).mono ?_; rintro e w6 ⟨rfl, hb6⟩; clear c0 c1 c2 c3 c4; obtain ⟨_, _, c0, c1, c2, c3, c4⟩ := HX.out _ hb6))
        all_goals
          have hfin : Below (w.heap.size + 1) (w.alloc (Wobj x)) _ := (by first | exact hb6 | assumption)
          have HF := Lib.hid (HX.out _ hfin).1
          go_wp2
          go_ret2
          exact ⟨rfl, HF.out⟩
  · have HE := Lib.hid (nameE_pre (nm := nm) (t := t) hpe)
    have HT := Lib.hid (nameT_bad (x := x) (loc := loc) (nm := nm) (t := t) (p := p) (by rw [HE.out]; exact hpe))
    obtain ⟨E, hE⟩ : ∃ E, E = preE x loc p := ⟨_, rfl⟩
    rw [← hE] at K1 HE hpe
    have g1 : (E != 0) = true := by simpa using hpe
    clear hE C1 B1
    go_enter Tryz.func12, Tryz.ntmps12
    go_wp2_with fail
    refine (K1.out _ hbb).mono ?_
    rintro e w1 ⟨rfl, h1⟩
    have HF := Lib.hid (HX.out _ (boxW_more hbb h1)).1
    clear h1 hbb
    go_wp2
    go_ret2
    exact ⟨ret_si HT.out.symm HE.out.symm, HF.out⟩
end Go.Proofs.YtbbbeldbhlehnaaGreatDoor
end
