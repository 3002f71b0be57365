/- The walk of UsesTrue. -/
import Derived.Deep.RegionHeld3
import Derived.Deep.QuietTactic
import Derived.BigQuiet
import Derived.Deep.CutRange
import Derived.Test.YtbbbeldbhlehnaaGreatMUsesTellsRow0
import Derived.Test.YtbbbeldbhlehnaaGreatMUsesTellsRow1
import Derived.Test.YtbbbeldbhlehnaaGreatMUsesTellsRow2
import Derived.Test.YtbbbeldbhlehnaaGreatMUsesTellsRow3
import Derived.Test.YtbbbeldbhlehnaaGreatMUsesTellsRow4
import Derived.Test.YtbbbeldbhlehnaaGreatMUsesTellsRow5
import Derived.Test.YtbbbeldbhlehnaaGreatMUsesTellsRow6
import Derived.Test.YtbbbeldbhlehnaaGreatMUsesTellsRow7
import Derived.Test.YtbbbeldbhlehnaaGreatMUsesTellsRow8
import Derived.Test.YtbbbeldbhlehnaaGreatMUsesTellsRow9
import Derived.Test.YtbbbeldbhlehnaaGreatMUsesTellsRow10
import Derived.Test.YtbbbeldbhlehnaaGreatMUsesTellsRow11
import Derived.Test.YtbbbeldbhlehnaaGreatMUsesTellsRow12
import Derived.Test.YtbbbeldbhlehnaaGreatMUsesTellsRow13
import Derived.Test.YtbbbeldbhlehnaaGreatMUsesTellsRow14
import Derived.Test.YtbbbeldbhlehnaaGreatMUsesTellsRow15
import Derived.Test.YtbbbeldbhlehnaaGreatMUsesTellsRow16
import Derived.Test.YtbbbeldbhlehnaaGreatMUsesTellsRow17
import Derived.Test.YtbbbeldbhlehnaaGreatMUsesTellsRow18
import Derived.Test.YtbbbeldbhlehnaaGreatMUsesTellsRow19
import Derived.Test.YtbbbeldbhlehnaaGreatMUsesTellsRow20
import Derived.Test.YtbbbeldbhlehnaaGreatMUsesTellsRow21
import Derived.Test.YtbbbeldbhlehnaaGreatMUsesTellsRow22
import Derived.Test.YtbbbeldbhlehnaaGreatMUsesTellsRow23
import Derived.Test.YtbbbeldbhlehnaaGreatMUsesTellsRow24
import Derived.Test.YtbbbeldbhlehnaaGreatMUsesTellsRow25
import Derived.Test.YtbbbeldbhlehnaaGreatMUsesTellsRow26
import Derived.Test.YtbbbeldbhlehnaaGreatMUsesTellsRow27
import Derived.Test.YtbbbeldbhlehnaaGreatMUsesTellsRow28
import Derived.Test.YtbbbeldbhlehnaaGreatMUsesTellsRow29
import Derived.Test.YtbbbeldbhlehnaaGreatMUsesTellsRow30
import Derived.Test.YtbbbeldbhlehnaaGreatMUsesTellsRow31
import Derived.Test.YtbbbeldbhlehnaaGreatMUsesTellsRow32
import Derived.Test.YtbbbeldbhlehnaaGreatMUsesTellsRow33
import Derived.Test.YtbbbeldbhlehnaaGreatMUsesTellsRow34
import Derived.Test.YtbbbeldbhlehnaaGreatMUsesTellsRow35
import Derived.Test.YtbbbeldbhlehnaaGreatMUsesTellsRow36
import Derived.Test.YtbbbeldbhlehnaaGreatMUsesTellsRow37
import Derived.Test.YtbbbeldbhlehnaaGreatMUsesTellsRow38
import Derived.Test.YtbbbeldbhlehnaaGreatMUsesTellsRow39
import Derived.Test.YtbbbeldbhlehnaaGreatQUseTrP
import Derived.Test.YtbbbeldbhlehnaaGreatQChoose
set_option linter.unusedSimpArgs false
set_option linter.unusedVariables false
set_option linter.unusedVariables false
set_option linter.unusedSimpArgs false
namespace Go.Proofs.YtbbbeldbhlehnaaGreat
open Go.RowKit Gno
theorem zonesR_len {d : Dt} {l : List Us} {mt : ByteArray} {t : Int} (hz : d.zs.length = d.zn) : (zonesR d l mt t).length ≤ 5 := by
  unfold zonesR
  by_cases e : zonesE d l mt t = 0
  · rw [if_pos e]
    have h1 := asked_few (zones_zero e).1
    unfold zonesS
    rw [sortB_len, ← zonesUp_end (i := d.zn) (by omega)]
    have := zonesUp_len (d := d) (l := l) (mt := mt) (t := t) d.zn
    omega
  · rw [if_neg e]; simp
set_option maxRecDepth 100000 in
set_option maxHeartbeats 8000000 in
theorem usesTrue_bad (d : Dt) (A : Option Addr) (n cap : Nat) (l : List Us) (mt : ByteArray) (t i j : Int) (w : World) (hD : DataAt w w.heap.size d) (hM : MaxAt w w.heap.size) (hU : UsesAt w w.heap.size A n l) (hmt : mt.size ≤ maxLen) (he : zonesE d l mt t ≠ 0) :
    Calls Tryz.prog 4 #[d.val, .slice A n cap, .string mt, .int .i64 t, .int .i64 i, .int .i64 j] w fun e w' => e = .returned (.bool true) ∧ Below w.heap.size w w' := by
  have HX := Lib.hid (fun W (h : Below (w.heap.size + 1) (w.alloc (Dobj d)) W) => boxU hD hU h)
  have MX := Lib.hid (fun W (h : Below w.heap.size w W) => hM.next h)
  have Z1 := Lib.hid (fun W (h : Below (w.heap.size + 1) (w.alloc (Dobj d)) W) => usesZones_any d A n cap l mt t W (HX.out W h).2.1 (MX.out W (HX.out W h).1) (HX.out W h).2.2.1 hmt)
  have UB := Lib.hid (fun W (h : Below (w.heap.size + 1) (w.alloc (Dobj d)) W) => usesBegun_any W (MX.out W (HX.out W h).1))
  have hbb : Below (w.heap.size + 1) (w.alloc (Dobj d)) (w.alloc (Dobj d)) := Below.refl _ _
  clear hD hM hU hmt
  unfold Dt.val at *
  obtain ⟨ZE, hZE⟩ : ∃ v, v = zonesE d l mt t := ⟨_, rfl⟩
  rw [← hZE] at Z1 he
  clear hZE
  have g1 : (ZE != 0) = true := by simpa using he
  clear he
  go_enter Tryz.func4, Tryz.ntmps4
  go_wp2_with fail
  refine (Z1.out _ hbb).mono ?_
  rintro e w1 ⟨v1, rfl, _, h1⟩
  have H1 := Lib.hid (box_more hbb h1)
  obtain ⟨_, _, _, c0, c1, c2⟩ := HX.out _ H1.out
  clear h1 hbb
  go_wp2_with fail
  refine (UB.out _ H1.out).mono ?_
  rintro e w2 ⟨rfl, h2⟩
  have H2 := Lib.hid (HX.out _ (box_more H1.out h2)).1
  clear h2
  go_wp2
  go_ret
  exact ⟨rfl, H2.out⟩
set_option maxRecDepth 100000 in
set_option maxHeartbeats 8000000 in
theorem usesTrue_none (d : Dt) (A : Option Addr) (n cap : Nat) (l : List Us) (mt : ByteArray) (t i j : Int) (w : World) (hD : DataAt w w.heap.size d) (hM : MaxAt w w.heap.size) (hU : UsesAt w w.heap.size A n l) (hmt : mt.size ≤ maxLen) (he : zonesE d l mt t = 0) (h0 : d.zn = 0) :
    Calls Tryz.prog 4 #[d.val, .slice A n cap, .string mt, .int .i64 t, .int .i64 i, .int .i64 j] w fun e w' => e = .returned (.bool true) ∧ Below w.heap.size w w' := by
  have HX := Lib.hid (fun W (h : Below (w.heap.size + 1) (w.alloc (Dobj d)) W) => boxU hD hU h)
  have MX := Lib.hid (fun W (h : Below w.heap.size w W) => hM.next h)
  have Z1 := Lib.hid (fun W (h : Below (w.heap.size + 1) (w.alloc (Dobj d)) W) => usesZones_any d A n cap l mt t W (HX.out W h).2.1 (MX.out W (HX.out W h).1) (HX.out W h).2.2.1 hmt)
  have UB := Lib.hid (fun W (h : Below (w.heap.size + 1) (w.alloc (Dobj d)) W) => usesBegun_any W (MX.out W (HX.out W h).1))
  have hbb : Below (w.heap.size + 1) (w.alloc (Dobj d)) (w.alloc (Dobj d)) := Below.refl _ _
  clear hD hM hU hmt
  unfold Dt.val at *
  rw [he] at Z1
  have g1 : ((d.zn : Int) == 0) = true := by rw [h0]; rfl
  clear he h0
  go_enter Tryz.func4, Tryz.ntmps4
  go_wp2_with fail
  refine (Z1.out _ hbb).mono ?_
  rintro e w1 ⟨v1, rfl, _, h1⟩
  have H1 := Lib.hid (box_more hbb h1)
  obtain ⟨_, _, _, c0, c1, c2⟩ := HX.out _ H1.out
  clear h1 hbb
  go_wp2_with fail
  refine (UB.out _ H1.out).mono ?_
  rintro e w2 ⟨rfl, h2⟩
  have H2 := Lib.hid (HX.out _ (box_more H1.out h2)).1
  clear h2
  go_wp2
  go_ret
  exact ⟨rfl, H2.out⟩
set_option maxRecDepth 100000 in
set_option maxHeartbeats 16000000 in
theorem usesTrue_some (d : Dt) (A : Option Addr) (n cap : Nat) (l : List Us) (mt : ByteArray) (t i j : Int) (w : World) (hD : DataAt w w.heap.size d) (hM : MaxAt w w.heap.size) (hU : UsesAt w w.heap.size A n l) (hmt : mt.size ≤ maxLen) (hi : (Lit.int .i64 i).wf = true) (hj : (Lit.int .i64 j).wf = true) (he : zonesE d l mt t = 0) (h0 : 0 < d.zn) :
    Calls Tryz.prog 4 #[d.val, .slice A n cap, .string mt, .int .i64 t, .int .i64 i, .int .i64 j] w fun e w' => e = .returned (.bool true) ∧ Below w.heap.size w w' := by
  have HX := Lib.hid (fun W (h : Below (w.heap.size + 1) (w.alloc (Dobj d)) W) => boxU hD hU h)
  have MX := Lib.hid (fun W (h : Below w.heap.size w W) => hM.next h)
  have Z1 := Lib.hid (fun W (h : Below (w.heap.size + 1) (w.alloc (Dobj d)) W) => usesZones_any d A n cap l mt t W (HX.out W h).2.1 (MX.out W (HX.out W h).1) (HX.out W h).2.2.1 hmt)
  have UB := Lib.hid (fun W (h : Below (w.heap.size + 1) (w.alloc (Dobj d)) W) => usesBegun_any W (MX.out W (HX.out W h).1))
  have hbb : Below (w.heap.size + 1) (w.alloc (Dobj d)) (w.alloc (Dobj d)) := Below.refl _ _
  have hzn : d.zs.length = d.zn := hD.2.1.1
  have hln : l.length = n := hU.1
  obtain ⟨hak, hnm⟩ := zones_zero he
  have hru := rightU_of (asked_zero hak).1
  have hfew := asked_few hak
  have hn10 : n ≤ 10 := by have := hru.few; omega
  have c1 := chooseN_bd i d.zn (by omega)
  obtain ⟨k, hk⟩ : ∃ k : Nat, chooseN i d.zn = (k : Int) := ⟨(chooseN i d.zn).toNat, by omega⟩
  have hkn : k < d.zn := by omega
  have hkI : (k : Int) < (d.zn : Int) := by omega
  have CI : Hid (∀ w, Calls Tryz.prog 14 #[.int .i64 i, .int .i64 d.zn] w fun e w' => e = .returned (.int .i64 k) ∧ w = w') := Lib.hid fun w => by rw [← hk]; exact choose_any i d.zn w hi (by omega) (by omega)
  obtain ⟨b0, o0, z, hzA, hzB, hzk, _, hzc⟩ := zones_get hD.2.1 hkn
  have hlead : leadN d z.name = (k : Int) := (right_of hru.data).leadZone hzk
  have hme := metaE_is (nm := z.name) hak (by omega) (z := z) (by rw [hlead]; exact hzk)
  have M1 := Lib.hid (fun W (h : Below (w.heap.size + 1) (w.alloc (Dobj d)) W) => usesMeta_any d A n cap l z.name t W (HX.out W h).2.1 (MX.out W (HX.out W h).1) (HX.out W h).2.2.1)
  rw [hme.1, hme.2] at M1
  obtain ⟨M, hMM⟩ : ∃ v, v = metaU l z.name t := ⟨_, rfl⟩
  rw [← hMM] at M1
  have hamong := among_zones he hzk
  rw [← hMM] at hamong
  obtain ⟨nm, hnmz⟩ : ∃ v, v = z.name := ⟨_, rfl⟩
  rw [← hnmz] at M1 hamong
  have HZ0 : Hid (∀ W, Below (w.heap.size + 1) (w.alloc (Dobj d)) W → W.cell? ⟨b0, o0 + k * 2, none⟩ = some (.string nm)) := Lib.hid fun W h => by rw [hnmz]; exact (hzc W (HX.out W h).1).1.1
  obtain ⟨Z, hZ⟩ : ∃ v, v = zonesR d l mt t := ⟨_, rfl⟩
  have hfewZ : Z.length ≤ 5 := by rw [hZ]; exact zonesR_len hzn
  have HRI : Hid (∀ x a b, Z[x]? = some a → Z[x + 1]? = some b → Op.bytesLess a.toList b.toList = true) := Lib.hid fun x a b ha hb => by rw [hZ] at ha hb; exact zonesR_rise he ha hb
  have HSW : Hid (∀ a b x y, l[a]? = some x → l[b]? = some y → zonesE d (swapL l a b x y) mt t = 0 ∧ zonesR d (swapL l a b x y) mt t = Z) := Lib.hid fun a b x y ha hb => by rw [hZ]; exact zones_swap he ha hb
  have Z2 := Lib.hid (fun A' n' cap' m W (h : Below (w.heap.size + 1) (w.alloc (Dobj d)) W) (hm : UsesAt W W.heap.size A' n' m) => usesZones_any d A' n' cap' m mt t W (HX.out W h).2.1 (MX.out W (HX.out W h).1) hm hmt)
  rw [he, ← hZ] at Z1
  rw [← hZ] at hamong
  have HAM := Lib.hid hamong
  have HU0 := Lib.hid hU
  have HSZ : Hid (∀ u ∈ l, u.zone.size ≤ maxLen ∧ u.mt.size ≤ maxLen) := Lib.hid (fun u hu => by
    obtain ⟨q, hq⟩ := List.getElem?_of_mem hu
    obtain ⟨_, _, u2, _, _, hq2, s1, s2, _⟩ := uses_get hU (i := q) (by rw [← hln]; exact (List.getElem?_eq_some_iff.1 hq).1)
    rw [hq] at hq2
    injection hq2 with hq2
    rw [hq2]; exact ⟨s1, s2⟩)
  have HLN := Lib.hid hln
  have g1 : ((d.zn : Int) == 0) = false := beq_eq_false_iff_ne.2 (by omega)
  have HC0 : Hid (∀ W, Below (w.heap.size + 1) (w.alloc (Dobj d)) W → W.cell? ⟨w.heap.size, 0, none⟩ = some (.slice d.sA d.sn d.sc) ∧ W.cell? ⟨w.heap.size, 1, none⟩ = some (.slice (some ⟨b0, o0, none⟩) d.zn d.zc) ∧ W.cell? ⟨w.heap.size, 2, none⟩ = some (.slice d.lA d.ln d.lc) ∧ W.cell? ⟨b0, o0 + k * 2, none⟩ = some (.string nm)) := Lib.hid fun W h => by
    have := (HX.out W h).2.2.2
    exact ⟨this.1, by rw [← hzA]; exact this.2.1, this.2.2, HZ0.out W h⟩
  unfold Dt.val at Z1 M1 Z2 ⊢
  rw [hzA] at M1 Z2
  clear hD hM hU hmt he hak hnm hru hk c1 hzk hzc hlead hme hMM hnmz hZ hamong hln hzn h0 hzA
  go_enter Tryz.func4, Tryz.ntmps4
  go_wp2_with fail
  refine (Z1.out _ hbb).mono ?_
  rintro e w1 ⟨v1, rfl, hz1, h1⟩
  have H1 := Lib.hid (box_more hbb h1)
  obtain ⟨Az, capz, rfl, hAz⟩ := own_formU hz1
  have HZ1 := Lib.hid hz1
  have HRD : Hid (∀ x y, Z[x]? = some y → ∃ g, Az = some ⟨g, 0, none⟩ ∧ ∀ W, Below w1.heap.size w1 W → W.cell? ⟨g, x, none⟩ = some (.string y)) := Lib.hid (fun x y hy => by
    have hx := (List.getElem?_eq_some_iff.1 hy).1
    obtain ⟨g, rfl⟩ := hAz (by omega)
    exact ⟨g, rfl, fun W hW => (hW.cell (HZ1.out.lt g rfl).2).trans (own_cellU HZ1.out (strs_at hy))⟩)
  have HB : Hid (∀ W, Below w1.heap.size w1 W → Below (w.heap.size + 1) (w.alloc (Dobj d)) W) := Lib.hid fun W h => box_more H1.out h
  have HC : Hid (∀ W, Below w1.heap.size w1 W → W.cell? ⟨w.heap.size, 0, none⟩ = some (.slice d.sA d.sn d.sc) ∧ W.cell? ⟨w.heap.size, 1, none⟩ = some (.slice (some ⟨b0, o0, none⟩) d.zn d.zc) ∧ W.cell? ⟨w.heap.size, 2, none⟩ = some (.slice d.lA d.ln d.lc) ∧ W.cell? ⟨b0, o0 + k * 2, none⟩ = some (.string nm)) := Lib.hid fun W h => HC0.out W (HB.out W h)
  have M1' : Hid (∀ W, Below w1.heap.size w1 W → Calls Tryz.prog 6 #[.agg #[.slice d.sA d.sn d.sc, .slice (some ⟨b0, o0, none⟩) d.zn d.zc, .slice d.lA d.ln d.lc], .slice A n cap, .string nm, .int .i64 t] W fun e w' => e = .returned (.tuple #[.string M, .int .i64 0]) ∧ Below w1.heap.size w1 w') := Lib.hid fun W h => (M1.out W (HB.out W h)).mono fun _ _ q => ⟨q.1, h.trans (q.2.mono h.size)⟩
  have hb1 : Below w1.heap.size w1 w1 := Below.refl _ _
  obtain ⟨c0, c1, c2, c3⟩ := HC.out _ hb1
  clear h1 hbb hz1 hAz Z1 HC0 HZ0 M1
  go_wp2_with fail
  refine (CI.out _).mono ?_
  rintro e w2 ⟨rfl, rfl⟩
  go_upto_region 5 with fail
  have HB1D : Hid (Below w1.heap.size w1 w1.drew) := Lib.hid hb1.drew
  go_cut [16, 17] from 49 to 61 (fun sa sb wx => sa = .string M ∧ sb = .int .i64 0 ∧ Hid (Below w1.heap.size w1 wx))
  case first =>
    clear c0 c1 c2 c3
    obtain ⟨c0, c1, c2, c3⟩ := HC.out _ HB1D.out
    go_region_held3 (fun w' => Below w1.heap.size w1 w' ∧ w'.cell? ⟨w.heap.size, 0, none⟩ = some (.slice d.sA d.sn d.sc) ∧ w'.cell? ⟨w.heap.size, 1, none⟩ = some (.slice (some ⟨b0, o0, none⟩) d.zn d.zc) ∧ w'.cell? ⟨w.heap.size, 2, none⟩ = some (.slice d.lA d.ln d.lc) ∧ w'.cell? ⟨b0, o0 + k * 2, none⟩ = some (.string nm))
      (refine ⟨?_, ?_, ?_, ?_, ?_⟩ <;> (first | assumption | exact HB1D.out | exact Below.drew (by assumption) | go_keep))
      (first
        | (go_at_call 6; refine (M1'.out _ (by first | assumption | exact HB1D.out)).mono ?_; rintro e w5 ⟨rfl, hb5⟩; clear c0 c1 c2 c3; obtain ⟨c0, c1, c2, c3⟩ := HC.out _ hb5))
    all_goals
      go_wp2_with fail
      go_meet
      exact ⟨rfl, rfl, Lib.hid (by assumption)⟩
  case rest =>
    obtain ⟨rfl, rfl, hbA⟩ := hcut
    obtain ⟨vA, hvA⟩ : ∃ v : World, v = wc := ⟨_, rfl⟩
    rw [← hvA] at hbA
    rw [← hvA]
    clear hvA c0 c1 c2 c3 hb1 HB1D M1'
    go_wp2_with fail
    go_loopw [18, 19] (fun b18 b19 wr => ∃ (x : Nat) (q : Bool), x ≤ Z.length ∧ q = amongTo Z nm x ∧ b18 = .bool q ∧ b19 = .int .i64 x ∧ Hid (Below w1.heap.size w1 wr)) (fun _ b19 _ => Z.length - (intOf b19).toNat)
    case atStart => exact ⟨0, false, Nat.zero_le _, rfl, rfl, rfl, hbA⟩
    case round =>
      clear hbA
      obtain ⟨x, q, hx, hq, rfl, rfl, hb⟩ := hrel
      by_cases hlt : x < Z.length
      · obtain ⟨y, hy⟩ : ∃ y, Z[x]? = some y := ⟨_, List.getElem?_eq_getElem hlt⟩
        have HST := Lib.hid (amongTo_step (v := nm) hy)
        have HQ := Lib.hid hq
        obtain ⟨g, rfl, hgc⟩ := HRD.out x y hy
        obtain ⟨c0, c1, c2, c3⟩ := HC.out _ hb.out
        have e1 := hgc _ hb.out
        have HGC := Lib.hid hgc
        have hsc : same nm y = (y.toList == nm.toList) := same_comm nm y
        have HQ2 : ∀ r, (y.toList == nm.toList) = r → Hid ((q || r) = amongTo Z nm (x + 1)) := fun r hr => Lib.hid (by rw [HST.out, hsc, hr, ← HQ.out])
        have HQ3 := Lib.hid HQ2
        obtain ⟨r, hr⟩ : ∃ r, r = (y.toList == nm.toList) := ⟨_, rfl⟩
        have HN := HQ3.out r hr.symm
        clear hq hgc hsc HQ2 HQ3
        by_cases hx0 : x = 0
        · subst hx0
          cases q <;> cases r <;> (
            replace hr := hr.symm
            clear hy
            go_wp2_with fail
            go_quiet (fail)
            obtain ⟨wq, hwq⟩ : ∃ wq, wq = wr.drewN nq := ⟨_, rfl⟩
            have HB2 : Hid (Below w1.heap.size w1 wq) := Lib.hid (by rw [hwq]; exact below_drewN hb.out nq)
            rw [← hwq]
            clear hb c0 c1 c2 c3 e1 hwq
            go_wp2_with fail
            go_quiet (fail)
            have HB3 := Lib.hid (below_drewN HB2.out nq)
            go_wp2_with fail
            go_roundw
            case rel => exact ⟨1, _, by omega, HN.out, rfl, by go_num, HB3⟩
            case measure => simp [intOf]; omega)
        · obtain ⟨v, hv⟩ : ∃ v, x = v + 1 := ⟨x - 1, by omega⟩
          obtain ⟨y0, hy0⟩ : ∃ y, Z[v]? = some y := ⟨_, List.getElem?_eq_getElem (by omega)⟩
          have hless : Op.bytesLess y0.toList y.toList = true := HRI.out v y0 y hy0 (by rw [← hv]; exact hy)
          obtain ⟨g', hg', hgc0⟩ := HRD.out v y0 hy0
          injection hg' with hg'
          injection hg' with hg'
          subst hg'
          have HGC0 := Lib.hid hgc0
          have hw1 : IntKind.i64.wrap ((x : Int) - 1) = (v : Int) := by rw [IntKind.wrap_i64]; omega
          have hv1 : v < Z.length := by omega
          have hvx : v < x := by omega
          have hjp : 0 < x := by omega
          have hjd : decide (0 < x) = true := decide_eq_true hjp
          have hjd2 : decide ((0 : Int) < (x : Int)) = true := decide_eq_true (by omega)
          clear hv hy0 hgc0 hx0
          cases q <;> cases r <;> (
            replace hr := hr.symm
            clear hy
            go_wp2_with fail
            go_quiet (fail)
            obtain ⟨wq, hwq⟩ : ∃ wq, wq = wr.drewN nq := ⟨_, rfl⟩
            have HB2 : Hid (Below w1.heap.size w1 wq) := Lib.hid (by rw [hwq]; exact below_drewN hb.out nq)
            rw [← hwq]
            clear hb c0 c1 c2 c3 e1 hwq
            have e1 := HGC.out _ HB2.out
            have e0 := HGC0.out _ HB2.out
            go_wp2_with fail
            go_quiet (fail)
            have HB3 := Lib.hid (below_drewN HB2.out nq)
            clear e0 e1
            go_wp2_with fail
            go_roundw
            case rel => exact ⟨x + 1, _, by omega, HN.out, rfl, by go_num, HB3⟩
            case measure => simp [intOf]; omega)
      · have hxe : x = Z.length := by omega
        have hqv : q = same M mt := by rw [hq, hxe]; exact HAM.out
        have hr : (M.toList == mt.toList) = q := hqv.symm
        have hqr : (q != q) = false := by simp
        have hltI : decide ((x : Int) < (Z.length : Int)) = false := decide_eq_false (by omega)
        clear hx hq hxe hqv HRD HRI
        have HV := Lib.hid hb.out
        clear hb
        by_cases hn0 : n = 0
        · have g2 : ((n : Int) == 0) = true := by rw [hn0]; rfl
          clear hn0
          go_wp2_with fail
          refine (UB.out _ (HB.out _ HV.out)).mono ?_
          rintro e w5 ⟨rfl, h5⟩
          have HF := Lib.hid (HX.out _ (HB.out _ (HV.out.trans (h5.mono HV.out.size)))).1
          clear h5
          go_wp2
          go_ret
          exact ⟨rfl, HF.out⟩
        · have g2 : ((n : Int) == 0) = false := beq_eq_false_iff_ne.2 (by omega)
          have hrs := HV.out.size
          have HUw := Lib.hid (HX.out _ (HB.out _ HV.out)).1
          obtain ⟨ad, hA⟩ : ∃ ad, A = some ad := by
            obtain ⟨pb, po, e, _⟩ := HU0.out.2.2 (by omega)
            exact ⟨_, e⟩
          subst hA
          have c4 := chooseN_bd i n (by omega)
          have c5 := chooseN_bd j n (by omega)
          obtain ⟨a, ha⟩ : ∃ a : Nat, chooseN i n = (a : Int) := ⟨(chooseN i n).toNat, by omega⟩
          obtain ⟨b, hbj⟩ : ∃ b : Nat, chooseN j n = (b : Int) := ⟨(chooseN j n).toNat, by omega⟩
          have han : a < n := by omega
          have hbn : b < n := by omega
          have haI : (a : Int) < (n : Int) := by omega
          have hbI : (b : Int) < (n : Int) := by omega
          have CI2 : Hid (∀ w, Calls Tryz.prog 14 #[.int .i64 i, .int .i64 n] w fun e w' => e = .returned (.int .i64 a) ∧ w = w') := Lib.hid fun w => by rw [← ha]; exact choose_any i n w hi (by omega) (by omega)
          have CJ2 : Hid (∀ w, Calls Tryz.prog 14 #[.int .i64 j, .int .i64 n] w fun e w' => e = .returned (.int .i64 b) ∧ w = w') := Lib.hid fun w => by rw [← hbj]; exact choose_any j n w hj (by omega) (by omega)
          obtain ⟨ux, hux⟩ : ∃ x, l[a]? = some x := ⟨_, List.getElem?_eq_getElem (by rw [HLN.out]; exact han)⟩
          obtain ⟨uy, huy⟩ : ∃ x, l[b]? = some x := ⟨_, List.getElem?_eq_getElem (by rw [HLN.out]; exact hbn)⟩
          have HSWP := Lib.hid (HSW.out a b ux uy hux huy)
          have HLA := Lib.hid hux
          have HLB := Lib.hid huy
          have hal : Below w.heap.size w (wr.alloc (.cells #[] 43)) := HUw.out.alloc HUw.out.size _
          have HOA : Hid ((wr.alloc (.cells #[] 43)).ownsRow wr.heap.size 43 4 (.slice (some ⟨wr.heap.size, 0, none⟩) 0 0) 0 []) := Lib.hid ⟨rfl, .inr ⟨wr.heap.size, 0, _, rfl, Nat.le_refl _, World.alloc_heap_new wr _, Nat.le_refl _, by unfold maxLen; omega, rfl, rfl⟩⟩
          have HCU := Lib.hid (uss_cells (SlAt.below keeps_us HU0.out hal (Nat.le_refl _)))
          have HL4 : Hid ((uss l).length = n * 4) := Lib.hid (by rw [uss_len, HLN.out])
          have HO4 := Lib.hid (uss_one l)
          have HBA : Hid (Below w1.heap.size w1 (wr.alloc (.cells #[] 43))) := Lib.hid (HV.out.alloc HV.out.size _)
          clear c4 c5 ha hbj hux huy hal hn0 CI HSW HAM
          go_wp2_with (at_builtin; go_must (refine wpList_app2 rfl _ _ 27 rfl wr.heap.size 43 (.agg #[.string ⟨#[]⟩, .int .i64 0, .int .i64 0, .string ⟨#[]⟩]) 4 48 Tryz.underlying27 infoUse rfl (by decide) _ 0 _ rfl HOA.out ad n cap (uss l) rfl HL4.out HCU.out HO4.out (by unfold maxLen; omega) (by omega) (by simp) ?_); intro v' w4 hown4 hg4 hn4)
          have HB4 : Hid (Below w1.heap.size w1 w4) := Lib.hid (HBA.out.grown hg4 (by simp; omega) (fun k hk => by have := (HOA.out.lt k hk).1; omega))
          rw [Nat.zero_add, List.nil_append] at hown4
          obtain ⟨A4, cap4, rfl, hf4⟩ := own_formU hown4
          obtain ⟨g, rfl⟩ := hf4 (by omega)
          have hgr := (hown4.lt g rfl).1
          have hgl := (hown4.lt g rfl).2
          have HO := Lib.hid hown4
          have hg1 : w1.heap.size ≤ g := by omega
          clear hg4 hn4 hown4 hf4 HOA HCU HL4 HO4 HBA hrs HV
          refine (CI2.out _).mono ?_
          rintro e w5 ⟨rfl, rfl⟩
          go_wp2_with fail
          refine (CJ2.out _).mono ?_
          rintro e w5 ⟨rfl, rfl⟩
          go_upto_region 19 with fail
          go_cut [23, 24] from 120 to 127 (fun sa sb wx => ∃ p q : Nat, sa = .pointer (some ⟨p, 0, none⟩) ∧ sb = .pointer (some ⟨q, 0, none⟩) ∧ w4.heap.size ≤ p ∧ w4.heap.size ≤ q ∧ Hid (Below w4.heap.size w4 wx) ∧ Hid (UsAt wx p 0 ux) ∧ Hid (UsAt wx q 0 uy))
          case first =>
            obtain ⟨x0, x1, x2, x3⟩ := (own_use HO.out HLA.out).1
            obtain ⟨y0, y1, y2, y3⟩ := (own_use HO.out HLB.out).1
            have n0 : w4.heap.size ≠ g := by omega
            have HS8 : Hid (∀ V, Below w4.heap.size w4 V → (V.cell? ⟨g, a * 4, none⟩ = some (.string ux.zone) ∧ V.cell? ⟨g, a * 4 + 1, none⟩ = some (.int .i64 ux.fr) ∧ V.cell? ⟨g, a * 4 + 2, none⟩ = some (.int .i64 ux.til) ∧ V.cell? ⟨g, a * 4 + 3, none⟩ = some (.string ux.mt)) ∧ (V.cell? ⟨g, b * 4, none⟩ = some (.string uy.zone) ∧ V.cell? ⟨g, b * 4 + 1, none⟩ = some (.int .i64 uy.fr) ∧ V.cell? ⟨g, b * 4 + 2, none⟩ = some (.int .i64 uy.til) ∧ V.cell? ⟨g, b * 4 + 3, none⟩ = some (.string uy.mt))) := Lib.hid fun V h => ⟨⟨(h.cell hgl).trans x0, (h.cell hgl).trans x1, (h.cell hgl).trans x2, (h.cell hgl).trans x3⟩, (h.cell hgl).trans y0, (h.cell hgl).trans y1, (h.cell hgl).trans y2, (h.cell hgl).trans y3⟩
            go_region_held3 (fun w' => (w'.cell? ⟨g, a * 4, none⟩ = some (.string ux.zone) ∧ w'.cell? ⟨g, a * 4 + 1, none⟩ = some (.int .i64 ux.fr) ∧ w'.cell? ⟨g, a * 4 + 2, none⟩ = some (.int .i64 ux.til) ∧ w'.cell? ⟨g, a * 4 + 3, none⟩ = some (.string ux.mt)) ∧ (w'.cell? ⟨g, b * 4, none⟩ = some (.string uy.zone) ∧ w'.cell? ⟨g, b * 4 + 1, none⟩ = some (.int .i64 uy.fr) ∧ w'.cell? ⟨g, b * 4 + 2, none⟩ = some (.int .i64 uy.til) ∧ w'.cell? ⟨g, b * 4 + 3, none⟩ = some (.string uy.mt)))
              ((refine HS8.out _ ?_; repeat (first | exact Below.refl _ _ | refine Below.drew ?_ | refine Below.alloc ?_ (by first | exact Nat.le_refl _ | simp) _ | refine Below.setCell ?_ (by first | exact Nat.le_refl _ | simp) _)))
              (fail)
            · go_wp2_with fail
              go_meet
              have hTB := two_boxes w4 ux uy
              exact ⟨_, _, rfl, rfl, Nat.le_refl _, by omega, Lib.hid hTB.1, Lib.hid hTB.2.1, Lib.hid hTB.2.2⟩
            · go_wp2_with fail
              go_meet
              have hTB := two_boxes w4 uy ux
              exact ⟨_, _, rfl, rfl, by omega, Nat.le_refl _, Lib.hid hTB.1, Lib.hid hTB.2.2, Lib.hid hTB.2.1⟩
          case rest =>
            obtain ⟨p, q2, rfl, rfl, hp, hq2, hbx, hux2, huy2⟩ := hcut
            obtain ⟨vA, hvA⟩ : ∃ v : World, v = wc := ⟨_, rfl⟩
            rw [← hvA] at hbx hux2 huy2
            rw [← hvA]
            clear hvA CI2 CJ2
            have n1 : g ≠ p := by omega
            have n2 : g ≠ q2 := by omega
            have HBx : Hid (Below w1.heap.size w1 vA) := Lib.hid (HB4.out.trans (hbx.out.mono HB4.out.size))
            have HO5 := Lib.hid (own_belowU HO.out hbx.out (Nat.le_refl _))
            have y0 : vA.cell? ⟨q2, 0, none⟩ = some (.string uy.zone) := huy2.out.1
            have y1 : vA.cell? ⟨q2, 1, none⟩ = some (.int .i64 uy.fr) := huy2.out.2.1
            have y2 : vA.cell? ⟨q2, 2, none⟩ = some (.int .i64 uy.til) := huy2.out.2.2.1
            have y3 : vA.cell? ⟨q2, 3, none⟩ = some (.string uy.mt) := huy2.out.2.2.2
            obtain ⟨⟨z0, z1, z2, z3⟩, f0, f1, f2, f3⟩ := own_use HO5.out HLA.out
            have HUX := Lib.hid hux2.out
            clear hbx hux2 huy2 HO HB4 hp hq2 hgl
            go_upto_region 21 with fail
            obtain ⟨v5, hv5⟩ : ∃ v, v = (((vA.setCell ⟨g, a * 4, none⟩ (.string uy.zone)).setCell ⟨g, a * 4 + 1, none⟩ (.int .i64 uy.fr)).setCell ⟨g, a * 4 + 2, none⟩ (.int .i64 uy.til)).setCell ⟨g, a * 4 + 3, none⟩ (.string uy.mt) := ⟨_, rfl⟩
            rw [← hv5]
            have HO6 : Hid (v5.ownsRow wr.heap.size 43 4 (.slice (some ⟨g, 0, none⟩) n cap4) n (uss (l.set a uy))) := Lib.hid (by rw [hv5]; exact own_setUse HO5.out han uy)
            have HB6 : Hid (Below w1.heap.size w1 v5) := Lib.hid (by rw [hv5]; exact setUse_below uy HBx.out hg1)
            have x0 : v5.cell? ⟨p, 0, none⟩ = some (.string ux.zone) := by rw [hv5]; exact (setUse_far uy n1).trans HUX.out.1
            have x1 : v5.cell? ⟨p, 1, none⟩ = some (.int .i64 ux.fr) := by rw [hv5]; exact (setUse_far uy n1).trans HUX.out.2.1
            have x2 : v5.cell? ⟨p, 2, none⟩ = some (.int .i64 ux.til) := by rw [hv5]; exact (setUse_far uy n1).trans HUX.out.2.2.1
            have x3 : v5.cell? ⟨p, 3, none⟩ = some (.string ux.mt) := by rw [hv5]; exact (setUse_far uy n1).trans HUX.out.2.2.2
            clear hv5 y0 y1 y2 y3 z0 z1 z2 z3 f0 f1 f2 f3 HUX HO5 HBx
            obtain ⟨ub, hub⟩ : ∃ u, (l.set a uy)[b]? = some u := ⟨_, List.getElem?_eq_getElem (by rw [List.length_set, HLN.out]; exact hbn)⟩
            obtain ⟨⟨z0, z1, z2, z3⟩, f0, f1, f2, f3⟩ := own_use HO6.out hub
            clear hub
            go_upto_region 22 with fail
            obtain ⟨v6, hv6⟩ : ∃ v, v = (((v5.setCell ⟨g, b * 4, none⟩ (.string ux.zone)).setCell ⟨g, b * 4 + 1, none⟩ (.int .i64 ux.fr)).setCell ⟨g, b * 4 + 2, none⟩ (.int .i64 ux.til)).setCell ⟨g, b * 4 + 3, none⟩ (.string ux.mt) := ⟨_, rfl⟩
            rw [← hv6]
            have HO7 : Hid (v6.ownsRow wr.heap.size 43 4 (.slice (some ⟨g, 0, none⟩) n cap4) n (uss (swapL l a b ux uy))) := Lib.hid (by rw [hv6]; exact own_setUse HO6.out hbn ux)
            have HB7 : Hid (Below w1.heap.size w1 v6) := Lib.hid (by rw [hv6]; exact setUse_below ux HB6.out hg1)
            clear hv6 x0 x1 x2 x3 z0 z1 z2 z3 f0 f1 f2 f3 HO6 HB6
            have hU7 : UsesAt v6 v6.heap.size (some ⟨g, 0, none⟩) n (swapL l a b ux uy) := by
              obtain ⟨A', cap', e, h⟩ := uses_own HO7.out (by unfold maxLen; omega) (fun u hu => HSZ.out u ((swap_perm HLA.out HLB.out).mem_iff.1 hu))
              injection e with e1 e2 e3
              subst e1
              exact h
            have Z3 := Lib.hid (Z2.out (some ⟨g, 0, none⟩) n cap4 (swapL l a b ux uy) v6 (HB.out _ HB7.out) hU7)
            rw [HSWP.out.1, HSWP.out.2] at Z3
            obtain ⟨c0, c1, c2, c3⟩ := HC.out _ HB7.out
            clear hU7 Z2 HO7 HSZ HLA HLB HSWP HU0 HUw
            go_wp2_with fail
            refine Z3.out.mono ?_
            rintro e w7 ⟨v7, rfl, hz7, h7⟩
            have HB8 : Hid (Below w1.heap.size w1 w7) := Lib.hid (HB7.out.trans (h7.mono HB7.out.size))
            have HZ7 := Lib.hid hz7
            clear h7 hz7 c0 c1 c2 c3 Z3
            go_wp2_with fail
            refine (UB.out _ (HB.out _ HB8.out)).mono ?_
            rintro e w8 ⟨rfl, h8⟩
            have HB9 : Hid (Below w1.heap.size w1 w8) := Lib.hid (HB8.out.trans (h8.mono HB8.out.size))
            have HZ8 := Lib.hid (own_belowU HZ7.out h8 (Nat.le_refl _))
            have HZ9 := Lib.hid (own_belowU HZ1.out HB9.out (Nat.le_refl _))
            clear h8
            have ST := Lib.hid (sameTexts_any v7 (.slice Az Z.length capz) Z.length _ _ Z w8 HZ8.out HZ9.out (by omega))
            go_wp2_with fail
            refine ST.out.mono ?_
            rintro e w9 ⟨rfl, h9⟩
            have HF := Lib.hid (HX.out _ (HB.out _ (HB9.out.trans (h9.mono HB9.out.size)))).1
            clear h9
            go_wp2
            go_ret
            exact ⟨rfl, HF.out⟩
theorem usesTrue_walk (d : Dt) (A : Option Addr) (n cap : Nat) (l : List Us) (mt : ByteArray) (t i j : Int) (w : World) (hD : DataAt w w.heap.size d) (hM : MaxAt w w.heap.size) (hU : UsesAt w w.heap.size A n l) (hmt : mt.size ≤ maxLen) (hi : (Lit.int .i64 i).wf = true) (hj : (Lit.int .i64 j).wf = true) :
    Calls Tryz.prog 4 #[d.val, .slice A n cap, .string mt, .int .i64 t, .int .i64 i, .int .i64 j] w fun e w' => e = .returned (.bool true) ∧ Below w.heap.size w w' := by
  by_cases he : zonesE d l mt t = 0
  · by_cases h0 : d.zn = 0
    · exact usesTrue_none d A n cap l mt t i j w hD hM hU hmt he h0
    · exact usesTrue_some d A n cap l mt t i j w hD hM hU hmt hi hj he (by omega)
  · exact usesTrue_bad d A n cap l mt t i j w hD hM hU hmt he
end Go.Proofs.YtbbbeldbhlehnaaGreat
