/- The walk of BackTrue. -/
import Derived.Deep.CutRange
import Derived.Test.YtbbbeldbhlehnaaGreatDoorMUBkT45
import Derived.Test.YtbbbeldbhlehnaaGreatDoorMUBkT30
set_option linter.unusedSimpArgs false
set_option linter.unusedVariables false
set_option linter.unusedVariables false
set_option linter.unusedSimpArgs false
namespace Go.Proofs.YtbbbeldbhlehnaaGreatDoor
open Go.RowKit Gno
set_option maxRecDepth 100000 in
set_option maxHeartbeats 400000 in
theorem backTrue_bad (x : Wd) (loc zone : ByteArray) (t p : Int) (behind : ByteArray) (w : World) (hW : WdAt w x) (hM : MaxAt w w.heap.size) (hp : (Lit.int .i64 p).wf = true) (hE : nameE x loc zone t p ≠ 0) :
    Calls Tryz.prog 8 #[x.val, .string loc, .string zone, .int .i64 t, .int .i64 p, .string behind] w fun e w' => e = .returned (.bool true) ∧ Below w.heap.size w w' := by
  have HX := Lib.hid (fun W (h : Below (w.heap.size + 1) (w.alloc (Wobj x)) W) => boxW hW h)
  have N1 := Lib.hid (fun W (h : Below (w.heap.size + 1) (w.alloc (Wobj x)) W) => nameP_any x loc zone t p W (HX.out W h).2.1 (hM.next (HX.out W h).1) hp)
  have BB := Lib.hid (fun W (h : Below (w.heap.size + 1) (w.alloc (Wobj x)) W) => backBegun_any W (hM.next (HX.out W h).1))
  have hbb : Below (w.heap.size + 1) (w.alloc (Wobj x)) (w.alloc (Wobj x)) := Below.refl _ _
  unfold WdCells at HX
  unfold Wd.val at *
  clear hW hM hp
  obtain ⟨E, hEE⟩ : ∃ E, E = nameE x loc zone t p := ⟨_, rfl⟩
  obtain ⟨S, hS⟩ : ∃ E, E = nameT x loc zone t p := ⟨_, rfl⟩
  rw [← hEE, ← hS] at N1
  rw [← hEE] at hE
  have g1 : (E != 0) = true := by simpa using hE
  clear hEE hS hE
  go_enter Tryz.func8, Tryz.ntmps8
  go_wp2_with fail
  refine (N1.out _ hbb).mono ?_
  rintro e w1 ⟨rfl, h1⟩
  have H1 := Lib.hid (boxW_more hbb h1)
  clear h1 hbb
  go_wp2_with fail
  refine (BB.out _ H1.out).mono ?_
  rintro e w2 ⟨rfl, h2⟩
  have HF := Lib.hid (HX.out _ (boxW_more H1.out h2)).1
  clear h2
  go_wp2
  go_ret
  exact ⟨rfl, HF.out⟩
set_option maxRecDepth 100000 in
set_option maxHeartbeats 16000000 in
theorem backTrue_some (x : Wd) (loc zone : ByteArray) (t p : Int) (behind : ByteArray) (w : World) (hW : WdAt w x) (hM : MaxAt w w.heap.size) (hp : (Lit.int .i64 p).wf = true) (hbh : behind.size ≤ 1048576) (hE : nameE x loc zone t p = 0) :
    Calls Tryz.prog 8 #[x.val, .string loc, .string zone, .int .i64 t, .int .i64 p, .string behind] w fun e w' => e = .returned (.bool true) ∧ Below w.heap.size w w' := by
  obtain ⟨z, hN⟩ := nameE_zero hE
  have hT := true_ok hN
  have HX := Lib.hid (fun W (h : Below (w.heap.size + 1) (w.alloc (Wobj x)) W) => boxW hW h)
  have N1 := Lib.hid (fun W (h : Below (w.heap.size + 1) (w.alloc (Wobj x)) W) => nameP_any x loc zone t p W (HX.out W h).2.1 (hM.next (HX.out W h).1) hp)
  have N2 := Lib.hid (fun nm W (h : Below (w.heap.size + 1) (w.alloc (Wobj x)) W) => nameP_any x loc nm t p W (HX.out W h).2.1 (hM.next (HX.out W h).1) hp)
  have PP := Lib.hid (fun s W (h : Below (w.heap.size + 1) (w.alloc (Wobj x)) W) => parseP_any x loc s t p W (HX.out W h).2.1 (hM.next (HX.out W h).1) hp)
  have ZO := Lib.hid (fun W (h : Below (w.heap.size + 1) (w.alloc (Wobj x)) W) => zone_any x.d zone W (HX.out W h).2.1.1 (hM.next (HX.out W h).1))
  have BB := Lib.hid (fun W (h : Below (w.heap.size + 1) (w.alloc (Wobj x)) W) => backBegun_any W (hM.next (HX.out W h).1))
  have hbb : Below (w.heap.size + 1) (w.alloc (Wobj x)) (w.alloc (Wobj x)) := Below.refl _ _
  have hzn : x.d.zs.length = x.d.zn := hW.1.2.1.1
  have hfew := prsL_few (loc := loc) (s := nameT x loc zone t p) (t := t) (p := p) hzn
  obtain ⟨k, hk⟩ : ∃ k : Nat, leadN x.d zone = (k : Int) := ⟨(leadN x.d zone).toNat, by have := hN.lead; omega⟩
  have hzk := hN.hz
  rw [hk, Int.toNat_natCast] at hzk
  have hkn : k < x.d.zn := by rw [← hzn]; exact (List.getElem?_eq_some_iff.1 hzk).1
  have hzo := hN.zone
  rw [hk] at hzo
  obtain ⟨b0, o0, z', hzA, _, hzk', _, hzc⟩ := zones_get hW.1.2.1 hkn
  obtain rfl : z' = z := by rw [hzk] at hzk'; exact (Option.some.inj hzk').symm
  have HZ0 : Hid (∀ W, Below (w.heap.size + 1) (w.alloc (Wobj x)) W → W.cell? ⟨b0, o0 + k * 2, none⟩ = some (.string z'.name)) := Lib.hid fun W h => (hzc W (HX.out W h).1).1.1
  have HA := Lib.hid hzA
  rw [hzo.1, hzo.2] at ZO
  rw [hE] at N1
  obtain ⟨S, hS⟩ : ∃ E, E = nameT x loc zone t p := ⟨_, rfl⟩
  rw [← hS] at N1 hT hfew
  have PA : Hid (∀ W, Below (w.heap.size + 1) (w.alloc (Wobj x)) W → Calls Tryz.prog 24 #[x.val, .string loc, .string (S ++ behind), .int .i64 t, .int .i64 p] W fun e w' => ∃ v, e = .returned (.tuple #[.int .i64 (prsN x loc (S ++ behind) t p), v, .int .i64 0]) ∧ w'.ownsRow (W.heap.size + 1) 9 1 v (prsL x loc (S ++ behind) t p).length (strs (prsL x loc (S ++ behind) t p)) ∧ Below W.heap.size W w') := Lib.hid fun W h => by
    have := PP.out (S ++ behind) W h
    rwa [hT.words] at this
  have PB : Hid (∀ W, Below (w.heap.size + 1) (w.alloc (Wobj x)) W → Calls Tryz.prog 24 #[x.val, .string loc, .string S, .int .i64 t, .int .i64 p] W fun e w' => ∃ v, e = .returned (.tuple #[.int .i64 S.size, v, .int .i64 0]) ∧ w'.ownsRow (W.heap.size + 1) 9 1 v (prsL x loc S t p).length (strs (prsL x loc S t p)) ∧ Below W.heap.size W w') := Lib.hid fun W h => by
    have := PP.out S W h
    rwa [hT.words, hT.whole] at this
  obtain ⟨m1, m2⟩ := hT.more behind
  obtain ⟨NA, hNA⟩ : ∃ n, n = prsN x loc (S ++ behind) t p := ⟨_, rfl⟩
  obtain ⟨QA, hQA⟩ : ∃ n, n = prsL x loc (S ++ behind) t p := ⟨_, rfl⟩
  obtain ⟨Z, hZ⟩ : ∃ n, n = prsL x loc S t p := ⟨_, rfl⟩
  rw [← hNA] at m1 m2
  rw [← hNA, ← hQA] at PA
  rw [← hZ] at PB hfew
  have HTO : Hid (∀ b ∈ Z, nameE x loc b t p = 0 ∧ nameT x loc b t p = S) := Lib.hid (by rw [hZ]; exact hT.told)
  have N3 : Hid (∀ nm W, nm ∈ Z → Below (w.heap.size + 1) (w.alloc (Wobj x)) W → Calls Tryz.prog 11 #[x.val, .string loc, .string nm, .int .i64 t, .int .i64 p] W fun e w' => e = .returned (.tuple #[.string S, .int .i64 0]) ∧ Below W.heap.size W w') := Lib.hid fun nm W hm h => by
    have := N2.out nm W h
    rwa [(HTO.out nm hm).1, (HTO.out nm hm).2] at this
  obtain ⟨nm0, hnm0⟩ : ∃ v, v = z'.name := ⟨_, rfl⟩
  rw [← hnm0] at HZ0
  have HME : Hid (nm0 ∈ Z) := Lib.hid (by rw [hZ, hnm0]; exact hT.mem)
  have HRI : Hid (∀ i a b, Z[i]? = some a → Z[i + 1]? = some b → Op.bytesLess a.toList b.toList = true) := Lib.hid fun i a b ha hb => by rw [hZ] at ha hb; exact prsL_rise hT.words ha hb
  have hsz : S.size ≤ 12 := hT.small
  have hk1 : (k : Int) < (x.d.zn : Int) := by omega
  have hk0 : (0 : Int) ≤ (k : Int) := Int.natCast_nonneg _
  have g5 : decide (NA < S.size) = false := decide_eq_false (by omega)
  have g6 : decide ((S ++ behind).size < NA) = false := decide_eq_false (by omega)
  have g6a : decide (S.size + behind.size < NA) = false := decide_eq_false (by rw [ByteArray.size_append] at m2; omega)
  have g6b : decide ((S.size : Int) + (behind.size : Int) < (NA : Int)) = false := decide_eq_false (by rw [ByteArray.size_append] at m2; omega)
  have g9 : ((S.size : Int) != (S.size : Int)) = false := by simp
  have hSS : (S ++ behind).size ≤ 1048588 := by rw [ByteArray.size_append]; omega
  have g7 : decide ((x.d.zn : Int) ≤ (k : Int)) = false := decide_eq_false (by omega)
  have g8 : decide (x.d.zn ≤ k) = false := decide_eq_false (by omega)
  have hs : (S.toList == S.toList) = true := by simp
  unfold WdCells at HX
  unfold Dt.val at ZO
  unfold Wd.val at *
  rw [hzA] at N3
  clear hW hM hp hE hN hT hzk hzk' hzo hzc hzn hS hNA hQA hZ hnm0 HTO N2 PP hzA hk
  go_enter Tryz.func8, Tryz.ntmps8
  go_wp2_with fail
  refine (N1.out _ hbb).mono ?_
  rintro e w1 ⟨rfl, h1⟩
  have H1 := Lib.hid (boxW_more hbb h1)
  obtain ⟨_, _, c0, c1, c2, c3, c4⟩ := HX.out _ H1.out
  clear h1 hbb N1
  go_wp2_with fail
  refine (PA.out _ H1.out).mono ?_
  rintro e w2 ⟨v2, rfl, _, h2⟩
  have H2 := Lib.hid (boxW_more H1.out h2)
  clear c0 c1 c2 c3 c4 h2 PA
  obtain ⟨_, _, c0, c1, c2, c3, c4⟩ := HX.out _ H2.out
  go_wp2_with fail
  refine (PB.out _ H2.out).mono ?_
  rintro e w3 ⟨v3, rfl, ho3, h3⟩
  have H3 := Lib.hid (boxW_more H2.out h3)
  clear c0 c1 c2 c3 c4 h3 PB
  obtain ⟨_, _, c0, c1, c2, c3, c4⟩ := HX.out _ H3.out
  obtain ⟨Az, capz, rfl, hAz⟩ := own_formU ho3
  have HO3 := Lib.hid ho3
  clear ho3
  go_wp2_with fail
  refine (ZO.out _ H3.out).mono ?_
  rintro e w4 ⟨rfl, h4⟩
  have H4 := Lib.hid (boxW_more H3.out h4)
  have HO4 := Lib.hid (own_belowU HO3.out h4 (Nat.le_refl _))
  clear c0 c1 c2 c3 c4 h4 ZO HO3
  have HRD : Hid (∀ i y, Z[i]? = some y → ∃ g, Az = some ⟨g, 0, none⟩ ∧ ∀ W, Below w4.heap.size w4 W → W.cell? ⟨g, i, none⟩ = some (.string y)) := Lib.hid (fun i y hy => by
    have hx := (List.getElem?_eq_some_iff.1 hy).1
    obtain ⟨g, rfl⟩ := hAz (by omega)
    exact ⟨g, rfl, fun W hW => (hW.cell (HO4.out.lt g rfl).2).trans (own_cellU HO4.out (strs_at hy))⟩)
  have HC : Hid (∀ W, Below w4.heap.size w4 W → W.cell? ⟨w.heap.size, 0, none⟩ = some (.slice x.d.sA x.d.sn x.d.sc) ∧ W.cell? ⟨w.heap.size, 1, none⟩ = some (.slice (some ⟨b0, o0, none⟩) x.d.zn x.d.zc) ∧ W.cell? ⟨w.heap.size, 2, none⟩ = some (.slice x.d.lA x.d.ln x.d.lc) ∧ W.cell? ⟨w.heap.size, 3, none⟩ = some (.slice x.uA x.un x.uc) ∧ W.cell? ⟨w.heap.size, 4, none⟩ = some (.slice x.bA x.bn x.bc) ∧ W.cell? ⟨b0, o0 + k * 2, none⟩ = some (.string nm0)) := Lib.hid fun W h => by
    have h9 := boxW_more H4.out h
    obtain ⟨_, _, q0, q1, q2, q3, q4⟩ := HX.out _ h9
    exact ⟨q0, by rw [← HA.out]; exact q1, q2, q3, q4, HZ0.out W h9⟩
  have N4 : Hid (∀ nm W, nm ∈ Z → Below w4.heap.size w4 W → Calls Tryz.prog 11 #[.agg #[.slice x.d.sA x.d.sn x.d.sc, .slice (some ⟨b0, o0, none⟩) x.d.zn x.d.zc, .slice x.d.lA x.d.ln x.d.lc, .slice x.uA x.un x.uc, .slice x.bA x.bn x.bc], .string loc, .string nm, .int .i64 t, .int .i64 p] W fun e w' => e = .returned (.tuple #[.string S, .int .i64 0]) ∧ Below w4.heap.size w4 w') := Lib.hid fun nm W hm h => by
    exact (N3.out nm W hm (boxW_more H4.out h)).mono fun _ _ q => ⟨q.1, h.trans (q.2.mono h.size)⟩
  have H40 : Hid (Below w4.heap.size w4 w4) := Lib.hid (Below.refl _ _)
  obtain ⟨c0, c1, c2, c3, c4, z0⟩ := HC.out _ H40.out
  clear hAz N3 H1 H2 H3
  go_wp2_with fail
  clear c0 c1 c2 c3 c4 z0
  go_loopw [23, 24] (fun b18 b19 wr => ∃ (i : Nat) (q : Bool), i ≤ Z.length ∧ q = hasTo Z nm0 i ∧ b18 = .bool q ∧ b19 = .int .i64 i ∧ Hid (Below w4.heap.size w4 wr)) (fun _ b19 _ => Z.length - (intOf b19).toNat)
  case atStart => exact ⟨0, false, Nat.zero_le _, rfl, rfl, rfl, H40⟩
  case round =>
    clear H40
    obtain ⟨i, q, hi, hq, rfl, rfl, hb⟩ := hrel
    by_cases hlt : i < Z.length
    · obtain ⟨y, hy⟩ : ∃ y, Z[i]? = some y := ⟨_, List.getElem?_eq_getElem hlt⟩
      have HST := Lib.hid (hasTo_step (nm := nm0) hy)
      have HYM := Lib.hid (List.mem_of_getElem? hy)
      have HQ := Lib.hid hq
      obtain ⟨g, rfl, hgc⟩ := HRD.out i y hy
      obtain ⟨c0, c1, c2, c3, c4, z0⟩ := HC.out _ hb.out
      have e1 := hgc _ hb.out
      have HGC := Lib.hid hgc
      obtain ⟨r, hr⟩ : ∃ r, r = (y.toList == nm0.toList) := ⟨_, rfl⟩
      have HN : Hid ((q || r) = hasTo Z nm0 (i + 1)) := Lib.hid (by rw [HST.out, hr, ← HQ.out])
      have HPV : Hid (i ≠ 0 → ∃ v y0, i = v + 1 ∧ Z[v]? = some y0 ∧ Op.bytesLess y0.toList y.toList = true ∧ ∀ W, Below w4.heap.size w4 W → W.cell? ⟨g, v, none⟩ = some (.string y0)) := Lib.hid fun h0 => by
        obtain ⟨v, hv⟩ : ∃ v, i = v + 1 := ⟨i - 1, by omega⟩
        obtain ⟨y0, hy0⟩ : ∃ y, Z[v]? = some y := ⟨_, List.getElem?_eq_getElem (by omega)⟩
        obtain ⟨g', hg', hgc0⟩ := HRD.out v y0 hy0
        injection hg' with hg'
        injection hg' with hg'
        subst hg'
        exact ⟨v, y0, hv, hy0, HRI.out v y0 y hy0 (by rw [← hv]; exact hy), hgc0⟩
      clear hq hgc hy
      cases q <;> cases r <;> (
        replace hr := hr.symm
        go_wp2_with fail
        go_quiet (fail)
        obtain ⟨wq, hwq⟩ : ∃ wq, wq = wr.drewN nq := ⟨_, rfl⟩
        have HB2 : Hid (Below w4.heap.size w4 wq) := Lib.hid (by rw [hwq]; exact below_drewT hb.out nq)
        rw [← hwq]
        clear hb c0 c1 c2 c3 c4 z0 e1 hwq
        go_upto_region 14 with fail
        go_cut [25, 26] from 131 to 142 (fun sa sb wx => sa = .string S ∧ sb = .int .i64 0 ∧ Hid (Below w4.heap.size w4 wx))
        case first =>
          have HB2D : Hid (Below w4.heap.size w4 wq.drew) := Lib.hid HB2.out.drew
          obtain ⟨c0, c1, c2, c3, c4, z0⟩ := HC.out _ HB2D.out
          have e1 := HGC.out _ HB2D.out
          go_region_held3 (fun w' => Below w4.heap.size w4 w' ∧ w'.cell? ⟨w.heap.size, 0, none⟩ = some (.slice x.d.sA x.d.sn x.d.sc) ∧ w'.cell? ⟨w.heap.size, 1, none⟩ = some (.slice (some ⟨b0, o0, none⟩) x.d.zn x.d.zc) ∧ w'.cell? ⟨w.heap.size, 2, none⟩ = some (.slice x.d.lA x.d.ln x.d.lc) ∧ w'.cell? ⟨w.heap.size, 3, none⟩ = some (.slice x.uA x.un x.uc) ∧ w'.cell? ⟨w.heap.size, 4, none⟩ = some (.slice x.bA x.bn x.bc) ∧ w'.cell? ⟨g, i, none⟩ = some (.string y))
            (refine ⟨?_, ?_, ?_, ?_, ?_, ?_, ?_⟩ <;> (first | assumption | exact HB2D.out | exact Below.drew (by assumption) | go_keep))
            (first
              | (go_at_call 11; refine (N4.out _ _ HYM.out (by first | assumption | exact HB2D.out)).mono ?_; rintro e w5 ⟨rfl, hb5⟩; clear c0 c1 c2 c3 c4 z0 e1; obtain ⟨c0, c1, c2, c3, c4, z0⟩ := HC.out _ hb5; have e1 := HGC.out _ hb5))
          all_goals
            go_wp2_with fail
            go_meet
            exact ⟨rfl, rfl, Lib.hid (by assumption)⟩
        case rest =>
          obtain ⟨rfl, rfl, hbA⟩ := hcut
          obtain ⟨vA, hvA⟩ : ∃ v : World, v = wc := ⟨_, rfl⟩
          rw [← hvA] at hbA
          rw [← hvA]
          clear hvA
          by_cases hx0 : i = 0
          · subst hx0
            go_wp2_with fail
            go_quiet (fail)
            have HB3 := Lib.hid (below_drewT hbA.out nq)
            go_wp2_with fail
            go_roundw
            case rel => exact ⟨1, _, by omega, HN.out, rfl, by go_num, HB3⟩
            case measure => simp [intOf]; omega
          · obtain ⟨v, y0, hv, _, hless, hc0⟩ := HPV.out hx0
            have e0 := hc0 _ hbA.out
            have e1 := HGC.out _ hbA.out
            have hw1 : IntKind.i64.wrap ((i : Int) - 1) = (v : Int) := by rw [IntKind.wrap_i64]; omega
            have hv1 : v < Z.length := by omega
            have hvx : v < i := by omega
            have hjp : 0 < i := by omega
            have hjd : decide (0 < i) = true := decide_eq_true hjp
            have hjd2 : decide ((0 : Int) < (i : Int)) = true := decide_eq_true (by omega)
            clear hv hc0 hx0
            go_wp2_with fail
            go_quiet (fail)
            have HB3 := Lib.hid (below_drewT hbA.out nq)
            clear e0 e1
            go_wp2_with fail
            go_roundw
            case rel => exact ⟨i + 1, _, by omega, HN.out, rfl, by go_num, HB3⟩
            case measure => simp [intOf]; omega)
    · have hxe : Z.length ≤ i := by omega
      have hqt : q = true := by rw [hq]; exact hasTo_end hxe HME.out
      subst hqt
      have HV := Lib.hid hb.out
      clear hb hq
      go_wp2_with fail
      refine (BB.out _ (boxW_more H4.out HV.out)).mono ?_
      rintro e w5 ⟨rfl, h5⟩
      have HF := Lib.hid (HX.out _ (boxW_more (boxW_more H4.out HV.out) h5)).1
      clear h5
      go_wp2
      go_ret
      exact ⟨rfl, HF.out⟩
theorem backTrue_walk (x : Wd) (loc zone : ByteArray) (t p : Int) (behind : ByteArray) (w : World) (hW : WdAt w x) (hM : MaxAt w w.heap.size) (hp : (Lit.int .i64 p).wf = true) (hbh : behind.size ≤ 1048576) :
    Calls Tryz.prog 8 #[x.val, .string loc, .string zone, .int .i64 t, .int .i64 p, .string behind] w fun e w' => e = .returned (.bool true) ∧ Below w.heap.size w w' := by
  by_cases hE : nameE x loc zone t p = 0
  · exact backTrue_some x loc zone t p behind w hW hM hp hbh hE
  · exact backTrue_bad x loc zone t p behind w hW hM hp hE
end Go.Proofs.YtbbbeldbhlehnaaGreatDoor
