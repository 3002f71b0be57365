/- The walk of NamesTrue. -/
import Derived.Test.YtbbbeldbhlehnaaGreatDoorMUNmTl0
import Derived.Test.YtbbbeldbhlehnaaGreatDoorMUNmTl1
import Derived.Test.YtbbbeldbhlehnaaGreatDoorMUNmTl2
import Derived.Test.YtbbbeldbhlehnaaGreatDoorMUNmTl3
import Derived.Test.YtbbbeldbhlehnaaGreatDoorMUNmTl4
import Derived.Test.YtbbbeldbhlehnaaGreatDoorMUNmTl5
import Derived.Test.YtbbbeldbhlehnaaGreatDoorMUNmTl6
import Derived.Test.YtbbbeldbhlehnaaGreatDoorMUNmTl7
import Derived.Test.YtbbbeldbhlehnaaGreatDoorMUNmTl8
import Derived.Test.YtbbbeldbhlehnaaGreatDoorMUNmTl9
import Derived.Test.YtbbbeldbhlehnaaGreatDoorMUNmTl10
import Derived.Test.YtbbbeldbhlehnaaGreatDoorMUNmTl11
import Derived.Test.YtbbbeldbhlehnaaGreatDoorMUNmTl12
import Derived.Test.YtbbbeldbhlehnaaGreatDoorMUNmTl13
import Derived.Test.YtbbbeldbhlehnaaGreatDoorMUNmTl14
import Derived.Test.YtbbbeldbhlehnaaGreatDoorMUNmTl15
import Derived.Test.YtbbbeldbhlehnaaGreatDoorMUNmTl16
import Derived.Test.YtbbbeldbhlehnaaGreatDoorMUNmTl17
import Derived.Test.YtbbbeldbhlehnaaGreatDoorMUNmTl18
import Derived.Test.YtbbbeldbhlehnaaGreatDoorMUNmTl19
import Derived.Test.YtbbbeldbhlehnaaGreatDoorMUNmTl20
import Derived.Test.YtbbbeldbhlehnaaGreatDoorMUNmTl21
import Derived.Test.YtbbbeldbhlehnaaGreatDoorMUNmTl22
import Derived.Test.YtbbbeldbhlehnaaGreatDoorMUNmTl23
import Derived.Test.YtbbbeldbhlehnaaGreatDoorMUNmTl24
import Derived.Test.YtbbbeldbhlehnaaGreatDoorMUNmTl25
import Derived.Test.YtbbbeldbhlehnaaGreatDoorMUNmTl26
import Derived.Test.YtbbbeldbhlehnaaGreatDoorMUNmTl27
import Derived.Test.YtbbbeldbhlehnaaGreatDoorMUNmTl28
import Derived.Test.YtbbbeldbhlehnaaGreatDoorMUNmTl29
import Derived.Test.YtbbbeldbhlehnaaGreatDoorMUNmTl30
import Derived.Test.YtbbbeldbhlehnaaGreatDoorMUNmTl31
import Derived.Test.YtbbbeldbhlehnaaGreatDoorMUNmTl32
import Derived.Test.YtbbbeldbhlehnaaGreatDoorMUNmTl33
import Derived.Test.YtbbbeldbhlehnaaGreatDoorMUNmTl34
import Derived.Test.YtbbbeldbhlehnaaGreatDoorMUNmTl35
import Derived.Test.YtbbbeldbhlehnaaGreatDoorMUNmTl36
import Derived.Test.YtbbbeldbhlehnaaGreatDoorMUNmTl37
import Derived.Test.YtbbbeldbhlehnaaGreatDoorMUNmTl38
set_option linter.unusedSimpArgs false
set_option linter.unusedVariables false
set_option linter.unusedVariables false
set_option linter.unusedSimpArgs false
namespace Go.Proofs.YtbbbeldbhlehnaaGreatDoor
open Go.RowKit Gno
set_option maxRecDepth 100000 in
set_option maxHeartbeats 16000000 in
theorem namesTrue_bad (x : Wd) (loc zone : ByteArray) (t p : Int) (w : World) (hW : WdAt w x) (hM : MaxAt w w.heap.size) (hp : (Lit.int .i64 p).wf = true) (he : nameE x loc zone t p ≠ 0) :
    Calls Tryz.prog 6 #[x.val, .string loc, .string zone, .int .i64 t, .int .i64 p] w fun e w' => e = .returned (.bool true) ∧ Below w.heap.size w w' := by
  have HX := Lib.hid (fun W (h : Below (w.heap.size + 1) (w.alloc (Wobj x)) W) => boxW hW h)
  have N1 := Lib.hid (fun W (h : Below (w.heap.size + 1) (w.alloc (Wobj x)) W) => nameP_any x loc zone t p W (HX.out W h).2.1 (hM.next (HX.out W h).1) hp)
  have NB := Lib.hid (fun W (h : Below (w.heap.size + 1) (w.alloc (Wobj x)) W) => namesBegun_any W (hM.next (HX.out W h).1))
  have hbb : Below (w.heap.size + 1) (w.alloc (Wobj x)) (w.alloc (Wobj x)) := Below.refl _ _
  have HFIN : Hid (∀ W, Below (w.heap.size + 1) (w.alloc (Wobj x)) W → Below w.heap.size w W) := Lib.hid fun W h => (HX.out W h).1
  clear hW hM hp HX
  unfold Wd.val at *
  obtain ⟨T, hT⟩ : ∃ v, v = nameT x loc zone t p := ⟨_, rfl⟩
  obtain ⟨E, hE⟩ : ∃ v, v = nameE x loc zone t p := ⟨_, rfl⟩
  rw [← hT, ← hE] at N1
  rw [← hE] at he
  have g1 : (E != 0) = true := by simpa using he
  clear hT hE he
  go_enter Tryz.func6, Tryz.ntmps6
  go_wp2_with fail
  refine (N1.out _ hbb).mono ?_
  rintro e w1 ⟨rfl, h1⟩
  have H1 := Lib.hid (boxW_more hbb h1)
  clear h1 hbb
  go_wp2_with fail
  refine (NB.out _ H1.out).mono ?_
  rintro e w2 ⟨rfl, h2⟩
  have HF := Lib.hid (HFIN.out _ (boxW_more H1.out h2))
  clear h2
  go_wp2
  go_ret
  exact ⟨rfl, HF.out⟩
set_option maxRecDepth 100000 in
set_option maxHeartbeats 16000000 in
theorem namesTrue_ok (x : Wd) (loc zone : ByteArray) (t p : Int) (w : World) (hW : WdAt w x) (hM : MaxAt w w.heap.size) (hp : (Lit.int .i64 p).wf = true) (hO : OMet w) (he : nameE x loc zone t p = 0) :
    Calls Tryz.prog 6 #[x.val, .string loc, .string zone, .int .i64 t, .int .i64 p] w fun e w' => e = .returned (.bool true) ∧ Below w.heap.size w w' := by
  obtain ⟨z, hN⟩ := nameE_zero he
  obtain ⟨i, hi⟩ : ∃ i : Nat, leadN x.d zone = (i : Int) := ⟨(leadN x.d zone).toNat, by have := hN.lead; omega⟩
  have hzz := hN.hz
  rw [hi, Int.toNat_natCast] at hzz
  have hin : i < x.d.zn := by rw [← hW.1.2.1.1]; exact (List.getElem?_eq_some_iff.1 hzz).1
  obtain ⟨b0, o0, q, hA, hbB, hq, _, hq2⟩ := zones_get hW.1.2.1 hin
  rw [hzz] at hq
  injection hq with hq
  subst hq
  have HX := Lib.hid (fun W (h : Below (w.heap.size + 1) (w.alloc (Wobj x)) W) => boxW hW h)
  have N1 := Lib.hid (fun nm q hq W (h : Below (w.heap.size + 1) (w.alloc (Wobj x)) W) => (nameP_any x loc nm t q W (HX.out W h).2.1 (hM.next (HX.out W h).1) hq).mono fun _ _ q => (⟨q.1, boxW_more h q.2⟩ : _ ∧ Below (w.heap.size + 1) (w.alloc (Wobj x)) _))
  have n1 := Lib.hid (N1.out zone p hp)
  have n2 := Lib.hid (N1.out z.name p hp)
  have n3 := Lib.hid (N1.out zone 1 (by decide))
  have Z1 := Lib.hid (fun W (h : Below (w.heap.size + 1) (w.alloc (Wobj x)) W) => (zone_any x.d zone W (HX.out W h).2.1.1 (hM.next (HX.out W h).1)).mono fun _ _ q => (⟨q.1, boxW_more h q.2⟩ : _ ∧ Below (w.heap.size + 1) (w.alloc (Wobj x)) _))
  have A1 := Lib.hid (fun W (h : Below (w.heap.size + 1) (w.alloc (Wobj x)) W) => (at_any x.d zone t W (HX.out W h).2.1.1 (hM.next (HX.out W h).1)).mono fun _ _ q => (⟨q.1, boxW_more h q.2⟩ : _ ∧ Below (w.heap.size + 1) (w.alloc (Wobj x)) _))
  have R1 := Lib.hid (fun W (h : Below (w.heap.size + 1) (w.alloc (Wobj x)) W) => read_any 3 (offS x.d z t) (by decide) W (hO.below (HX.out W h).1))
  have NB := Lib.hid (fun W (h : Below (w.heap.size + 1) (w.alloc (Wobj x)) W) => namesBegun_any W (hM.next (HX.out W h).1))
  have hbb : Below (w.heap.size + 1) (w.alloc (Wobj x)) (w.alloc (Wobj x)) := Below.refl _ _
  have HFIN : Hid (∀ W, Below (w.heap.size + 1) (w.alloc (Wobj x)) W → Below w.heap.size w W) := Lib.hid fun W h => (HX.out W h).1
  have HC : Hid (∀ W, Below (w.heap.size + 1) (w.alloc (Wobj x)) W → (W.cell? ⟨w.heap.size, 0, none⟩ = some (.slice x.d.sA x.d.sn x.d.sc) ∧ W.cell? ⟨w.heap.size, 1, none⟩ = some (.slice (some ⟨b0, o0, none⟩) x.d.zn x.d.zc) ∧ W.cell? ⟨w.heap.size, 2, none⟩ = some (.slice x.d.lA x.d.ln x.d.lc) ∧ W.cell? ⟨w.heap.size, 3, none⟩ = some (.slice x.uA x.un x.uc) ∧ W.cell? ⟨w.heap.size, 4, none⟩ = some (.slice x.bA x.bn x.bc)) ∧ W.cell? ⟨b0, o0 + i * 2, none⟩ = some (.string z.name)) := Lib.hid fun W h => by
    have h3 := (HX.out W h).2.2
    unfold WdCells at h3
    rw [hA] at h3
    exact ⟨h3, (hq2 W (HX.out W h).1).1.1⟩
  rw [he, hN.told] at n1
  rw [hN.own.1, hN.own.2, hN.told] at n2
  rw [hN.byOff.1, hN.byOff.2] at n3
  rw [hN.zone.1, hN.zone.2, hi] at Z1
  have hat := hN.at_
  rw [hat.1] at A1
  have hrd := hN.read
  rw [hrd.2] at R1
  have hsz := called_size hN.right hN.mem (k := bookN x.bs loc) (p := p) hN.time.2
  have hbd := offTo_bd (rightE_of hN.right.data) hN.mem hN.time.2
  rw [← hat.2] at hbd
  have hsr := sub_rem hbd
  unfold Dt.val at Z1 A1
  unfold Wd.val at *
  rw [hA] at n2 n3 Z1 A1
  obtain ⟨T, hT⟩ : ∃ v, v = calledZ x (bookN x.bs loc) z t p := ⟨_, rfl⟩
  obtain ⟨nm, hnm⟩ : ∃ v, v = z.name := ⟨_, rfl⟩
  obtain ⟨V, hV⟩ : ∃ v, v = offS x.d z t := ⟨_, rfl⟩
  obtain ⟨X, hX⟩ : ∃ v, v = oaTo x.d zone t := ⟨_, rfl⟩
  obtain ⟨S1, hS1⟩ : ∃ v, v = oaSv x.d zone t := ⟨_, rfl⟩
  obtain ⟨B1, hB1⟩ : ∃ v, v = oaAb x.d zone t := ⟨_, rfl⟩
  obtain ⟨N, hNN⟩ : ∃ v, v = readN 3 (offS x.d z t) := ⟨_, rfl⟩
  rw [← hNN] at R1 hrd
  rw [← hX] at A1 hrd hsr
  rw [← hS1, ← hB1] at A1
  rw [← hV] at n3 R1
  rw [← hnm] at n2 HC
  rw [← hT] at n1 n2 hsz
  replace hsr : IntKind.i64.wrap (X - X.tmod 60) = N := hsr.trans hrd.1.symm
  have g1 : T.toList.isEmpty = false := some_list (by omega)
  have g2 : decide ((12 : Int) < (T.size : Int)) = false := decide_eq_false (by omega)
  have g3 : decide ((i : Int) < 0) = false := decide_eq_false (by omega)
  have g4 : decide ((x.d.zn : Int) ≤ (i : Int)) = false := decide_eq_false (by omega)
  have g4n : decide (x.d.zn ≤ i) = false := decide_eq_false (by omega)
  have g5 : (i : Int) < (x.d.zn : Int) := by omega
  have g6 : (T.toList == T.toList) = true := by simp
  clear he hN hi hzz hin hA hbB hq2 HX N1 hW hM hO hp hat hrd hsz hbd hT hnm hV hX hS1 hB1 hNN
  go_enter Tryz.func6, Tryz.ntmps6
  go_wp2_with fail
  refine (n1.out _ hbb).mono ?_
  rintro e w1 ⟨rfl, h1⟩
  replace h1 := Lib.hid h1
  obtain ⟨⟨c0, c1, c2, c3, c4⟩, d0⟩ := HC.out _ h1.out
  clear hbb
  go_wp2_with fail
  refine (Z1.out _ h1.out).mono ?_
  rintro e w2 ⟨rfl, h2⟩
  replace h2 := Lib.hid h2
  clear c0 c1 c2 c3 c4 d0 h1
  obtain ⟨⟨c0, c1, c2, c3, c4⟩, d0⟩ := HC.out _ h2.out
  go_upto_region 7 with fail
  have HD := Lib.hid h2.out.drew
  go_cut [15, 16] from 65 to 79 (fun sa sb wx => sa = .string T ∧ sb = .int .i64 0 ∧ Hid (Below (w.heap.size + 1) (w.alloc (Wobj x)) wx))
  case first =>
    clear c0 c1 c2 c3 c4 d0
    obtain ⟨⟨c0, c1, c2, c3, c4⟩, d0⟩ := HC.out _ HD.out
    go_region_held3 (fun w' => Below (w.heap.size + 1) (w.alloc (Wobj x)) w' ∧ w'.cell? ⟨w.heap.size, 0, none⟩ = some (.slice x.d.sA x.d.sn x.d.sc) ∧ w'.cell? ⟨w.heap.size, 1, none⟩ = some (.slice (some ⟨b0, o0, none⟩) x.d.zn x.d.zc) ∧ w'.cell? ⟨w.heap.size, 2, none⟩ = some (.slice x.d.lA x.d.ln x.d.lc) ∧ w'.cell? ⟨w.heap.size, 3, none⟩ = some (.slice x.uA x.un x.uc) ∧ w'.cell? ⟨w.heap.size, 4, none⟩ = some (.slice x.bA x.bn x.bc) ∧ w'.cell? ⟨b0, o0 + i * 2, none⟩ = some (.string nm))
      (refine ⟨?_, ?_, ?_, ?_, ?_, ?_, ?_⟩ <;> (first | assumption | exact HD.out | exact Below.drew (by assumption) | go_keep))
      (first
        | (go_at_call 11; refine (n2.out _ (by first | assumption | exact HD.out)).mono ?_; rintro e w5 ⟨rfl, hb5⟩; clear c0 c1 c2 c3 c4 d0; obtain ⟨⟨c0, c1, c2, c3, c4⟩, d0⟩ := HC.out _ hb5))
    all_goals
      go_wp2_with fail
      go_meet
      exact ⟨rfl, rfl, Lib.hid (by assumption)⟩
  case rest =>
    obtain ⟨rfl, rfl, hbA⟩ := hcut
    obtain ⟨vA, hvA⟩ : ∃ v : World, v = wc := ⟨_, rfl⟩
    rw [← hvA] at hbA
    rw [← hvA]
    clear hvA c0 c1 c2 c3 c4 d0 h2 HD
    obtain ⟨⟨c0, c1, c2, c3, c4⟩, d0⟩ := HC.out _ hbA.out
    go_wp2_with fail
    refine (n3.out _ hbA.out).mono ?_
    rintro e w3 ⟨rfl, h3⟩
    replace h3 := Lib.hid h3
    clear c0 c1 c2 c3 c4 d0 hbA
    obtain ⟨⟨c0, c1, c2, c3, c4⟩, d0⟩ := HC.out _ h3.out
    go_wp2_with fail
    refine (A1.out _ h3.out).mono ?_
    rintro e w4 ⟨rfl, h4⟩
    replace h4 := Lib.hid h4
    have HV4 : Hid (Below (w.heap.size + 1) (w.alloc (Wobj x)) (w4.alloc (.cells #[.int .i64 X, .int .i64 S1, .string B1] 46))) := Lib.hid (h4.out.alloc (by have := h4.out.size; simpa using this) _)
    have HK : Hid (∀ W, Below (w4.heap.size + 1) (w4.alloc (.cells #[.int .i64 X, .int .i64 S1, .string B1] 46)) W → W.cell? ⟨w4.heap.size, 0, none⟩ = some (.int .i64 X)) := Lib.hid fun W h => by
      have k4 := (h.block w4.heap.size (by omega)).trans (World.alloc_heap_new w4 (.cells #[.int .i64 X, .int .i64 S1, .string B1] 46))
      exact cell_ofU k4 rfl
    clear c0 c1 c2 c3 c4 d0 h3
    go_wp2_with fail
    refine (R1.out _ HV4.out).mono ?_
    rintro e w5 ⟨rfl, h5⟩
    have H5 := Lib.hid (boxW_more HV4.out h5)
    have H5k : Hid (Below (w4.heap.size + 1) (w4.alloc (.cells #[.int .i64 X, .int .i64 S1, .string B1] 46)) w5) := Lib.hid (by simpa using h5)
    clear h5 h4
    go_wp2_with fail
    refine (NB.out _ H5.out).mono ?_
    rintro e w6 ⟨rfl, h6⟩
    have HF := Lib.hid (HFIN.out _ (boxW_more H5.out h6))
    have k0 := HK.out w6 (H5k.out.trans (h6.mono (by have := H5k.out.size; simpa using this)))
    clear h6
    go_wp2
    go_ret
    exact ⟨rfl, HF.out⟩
theorem namesTrue_walk (x : Wd) (loc zone : ByteArray) (t p : Int) (w : World) (hW : WdAt w x) (hM : MaxAt w w.heap.size) (hp : (Lit.int .i64 p).wf = true) (hO : OMet w) :
    Calls Tryz.prog 6 #[x.val, .string loc, .string zone, .int .i64 t, .int .i64 p] w fun e w' => e = .returned (.bool true) ∧ Below w.heap.size w w' := by
  by_cases he : nameE x loc zone t p = 0
  · exact namesTrue_ok x loc zone t p w hW hM hp hO he
  · exact namesTrue_bad x loc zone t p w hW hM hp he
end Go.Proofs.YtbbbeldbhlehnaaGreatDoor
