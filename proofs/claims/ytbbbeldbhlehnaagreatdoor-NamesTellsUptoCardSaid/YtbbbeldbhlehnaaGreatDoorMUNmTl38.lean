/- The walk of NamesTells. -/
import Derived.Test.YtbbbeldbhlehnaaGreatDoorMUNmTl37
set_option linter.unusedSimpArgs false
set_option linter.unusedVariables false
/-! The walk of NamesTells. -/
section
set_option linter.unusedVariables false
set_option linter.unusedSimpArgs false
namespace Go.Proofs.YtbbbeldbhlehnaaGreatDoor
open Go.RowKit Gno
set_option maxRecDepth 100000 in
set_option maxHeartbeats 16000000 in
theorem namesTells_walk (x : Wd) (loc zone : ByteArray) (t p : Int) (w : World) (hW : WdAt w x) (hM : MaxAt w w.heap.size) (hzs : zone.size ≤ maxLen) (hp : (Lit.int .i64 p).wf = true) :
    Calls Tryz.prog 3 #[x.val, .string loc, .string zone, .int .i64 t, .int .i64 p] w fun e w' => e = .returned (.bool true) ∧ Below w.heap.size w w' := by
  have HX := Lib.hid (fun W (h : Below (w.heap.size + 1) (w.alloc (Wobj x)) W) => boxW hW h)
  have N1 := Lib.hid (fun W (h : Below (w.heap.size + 1) (w.alloc (Wobj x)) W) => (nameP_any x loc zone t p W (HX.out W h).2.1 (hM.next (HX.out W h).1) hp).mono fun _ _ q => (⟨q.1, boxW_more h q.2⟩ : _ ∧ Below (w.heap.size + 1) (w.alloc (Wobj x)) _))
  have N2 := Lib.hid (fun W (h : Below (w.heap.size + 1) (w.alloc (Wobj x)) W) => (nameR_any x loc zone t p W (HX.out W h).2.1 (hM.next (HX.out W h).1)).mono fun _ _ q => (⟨q.1, boxW_more h q.2⟩ : _ ∧ Below (w.heap.size + 1) (w.alloc (Wobj x)) _))
  have C1 := Lib.hid (fun W (h : Below (w.heap.size + 1) (w.alloc (Wobj x)) W) => (cityPub_any zone W hzs (hM.next (HX.out W h).1)).mono fun _ _ q => (⟨q.1, boxW_more h q.2⟩ : _ ∧ Below (w.heap.size + 1) (w.alloc (Wobj x)) _))
  have I1 := Lib.hid (fun W => isName_any zone W hzs)
  have K1 := Lib.hid (fun W (h : Below (w.heap.size + 1) (w.alloc (Wobj x)) W) => (worldCk_any x W (HX.out W h).2.1 (hM.next (HX.out W h).1)).mono fun _ _ q => (⟨q.1, boxW_more h q.2⟩ : _ ∧ Below (w.heap.size + 1) (w.alloc (Wobj x)) _))
  have K2 := Lib.hid (fun W (h : Below (w.heap.size + 1) (w.alloc (Wobj x)) W) => (worldR_any x W (HX.out W h).2.1).mono fun _ _ q => (⟨q.1, boxW_more h q.2⟩ : _ ∧ Below (w.heap.size + 1) (w.alloc (Wobj x)) _))
  have NB := Lib.hid (fun W (h : Below (w.heap.size + 1) (w.alloc (Wobj x)) W) => (namesBegun_any W (hM.next (HX.out W h).1)).mono fun _ _ q => (⟨q.1, boxW_more h q.2⟩ : _ ∧ Below (w.heap.size + 1) (w.alloc (Wobj x)) _))
  have R1 : Hid (∀ W, nameOk zone = true → Below (w.heap.size + 1) (w.alloc (Wobj x)) W → Calls Tryz.prog 15 #[.string zone] W fun e w' => e = .returned (.string (citySt zone)) ∧ Below (w.heap.size + 1) (w.alloc (Wobj x)) w') := Lib.hid fun W hn h => by
    have := cityR_any 12 zone W (nameOk_len hn).2 (by omega)
    rw [show citySt zone = cityT zone by unfold citySt; rw [if_pos hn]]
    exact this.mono fun _ _ q => ⟨q.1, boxW_more h q.2⟩
  have hbb : Below (w.heap.size + 1) (w.alloc (Wobj x)) (w.alloc (Wobj x)) := Below.refl _ _
  unfold WdCells at HX
  unfold Wd.val at *
  clear hW hM hzs hp
  obtain ⟨T, hT⟩ : ∃ v, v = nameT x loc zone t p := ⟨_, rfl⟩
  obtain ⟨E, hE⟩ : ∃ v, v = nameE x loc zone t p := ⟨_, rfl⟩
  obtain ⟨WE, hWE⟩ : ∃ v, v = worldE x := ⟨_, rfl⟩
  rw [← hT, ← hE] at N1 N2
  rw [← hWE] at K1 K2
  clear hT hE hWE
  have hs : (T.toList == T.toList) = true := by simp
  have HFIN : Hid (∀ W, Below (w.heap.size + 1) (w.alloc (Wobj x)) W → Below w.heap.size w W) := Lib.hid fun W h => (HX.out W h).1
  have HC : Hid (∀ W, Below (w.heap.size + 1) (w.alloc (Wobj x)) W → W.cell? ⟨w.heap.size, 0, none⟩ = some (.slice x.d.sA x.d.sn x.d.sc) ∧ W.cell? ⟨w.heap.size, 1, none⟩ = some (.slice x.d.zA x.d.zn x.d.zc) ∧ W.cell? ⟨w.heap.size, 2, none⟩ = some (.slice x.d.lA x.d.ln x.d.lc) ∧ W.cell? ⟨w.heap.size, 3, none⟩ = some (.slice x.uA x.un x.uc) ∧ W.cell? ⟨w.heap.size, 4, none⟩ = some (.slice x.bA x.bn x.bc)) := Lib.hid fun W h => (HX.out W h).2.2
  clear HX
  cases hn : nameOk zone
  · have e1 : cityE zone = 5 := by unfold cityE; rw [if_neg (by simp [hn])]
    have e2 : citySt zone = ⟨#[]⟩ := by unfold citySt; rw [if_neg (by simp [hn])]
    rw [hn] at I1
    rw [e1, e2] at C1
    clear hn e1 e2 R1
    go_enter Tryz.func3, Tryz.ntmps3
    go_wp2_with fail
    refine (N1.out _ hbb).mono ?_
    rintro e w1 ⟨rfl, h1⟩
    replace h1 := Lib.hid h1
    obtain ⟨c0, c1, c2, c3, c4⟩ := HC.out _ h1.out
    go_wp2_with fail
    refine (N2.out _ h1.out).mono ?_
    rintro e w2 ⟨rfl, h2⟩
    replace h2 := Lib.hid h2
    clear c0 c1 c2 c3 c4 h1 hbb
    go_wp2_with fail
    refine (C1.out _ h2.out).mono ?_
    rintro e w3 ⟨rfl, h3⟩
    replace h3 := Lib.hid h3
    go_wp2_with fail
    refine (I1.out _).mono ?_
    rintro e w4 ⟨rfl, rfl⟩
    go_wp2_with fail
    have hd := h3.out.drew
    have HD := Lib.hid hd
    obtain ⟨c0, c1, c2, c3, c4⟩ := HC.out _ hd
    clear hd h2
    go_region_held3 (fun w' => Below (w.heap.size + 1) (w.alloc (Wobj x)) w' ∧ w'.cell? ⟨w.heap.size, 0, none⟩ = some (.slice x.d.sA x.d.sn x.d.sc) ∧ w'.cell? ⟨w.heap.size, 1, none⟩ = some (.slice x.d.zA x.d.zn x.d.zc) ∧ w'.cell? ⟨w.heap.size, 2, none⟩ = some (.slice x.d.lA x.d.ln x.d.lc) ∧ w'.cell? ⟨w.heap.size, 3, none⟩ = some (.slice x.uA x.un x.uc) ∧ w'.cell? ⟨w.heap.size, 4, none⟩ = some (.slice x.bA x.bn x.bc))
      (refine ⟨?_, ?_, ?_, ?_, ?_, ?_⟩ <;> (first | assumption | exact HD.out | exact Below.drew (by assumption) | go_keep))
      (first
        | (go_at_call 16; refine (NB.out _ (by first | assumption | exact HD.out)).mono ?_; rintro e w5 ⟨rfl, hb5⟩; clear c0 c1 c2 c3 c4; obtain ⟨c0, c1, c2, c3, c4⟩ := HC.out _ hb5)
        | (go_at_call 17; refine (K1.out _ (by first | assumption | exact HD.out)).mono ?_; rintro e w5 ⟨rfl, hb5⟩; clear c0 c1 c2 c3 c4; obtain ⟨c0, c1, c2, c3, c4⟩ := HC.out _ hb5)
        | (go_at_call 18; refine (K2.out _ (by first | assumption | exact HD.out)).mono ?_; rintro e w5 ⟨rfl, hb5⟩; clear c0 c1 c2 c3 c4; obtain ⟨c0, c1, c2, c3, c4⟩ := HC.out _ hb5))
    all_goals
      have hfin : Below (w.heap.size + 1) (w.alloc (Wobj x)) _ := (by first | assumption | exact Below.drew (by assumption))
      have HF := Lib.hid (HFIN.out _ hfin)
      go_wp2
      go_ret
      exact ⟨rfl, HF.out⟩
  · have e1 : cityE zone = 0 := by unfold cityE; rw [if_pos hn]
    rw [e1] at C1
    have R2 := Lib.hid (fun W => R1.out W hn)
    rw [hn] at I1
    obtain ⟨CC, hCC⟩ : ∃ v, v = citySt zone := ⟨_, rfl⟩
    rw [← hCC] at C1 R2
    have hs2 : (CC.toList == CC.toList) = true := by simp
    clear hn e1 R1 hCC
    go_enter Tryz.func3, Tryz.ntmps3
    go_wp2_with fail
    refine (N1.out _ hbb).mono ?_
    rintro e w1 ⟨rfl, h1⟩
    replace h1 := Lib.hid h1
    obtain ⟨c0, c1, c2, c3, c4⟩ := HC.out _ h1.out
    go_wp2_with fail
    refine (N2.out _ h1.out).mono ?_
    rintro e w2 ⟨rfl, h2⟩
    replace h2 := Lib.hid h2
    clear c0 c1 c2 c3 c4 h1 hbb
    go_wp2_with fail
    refine (C1.out _ h2.out).mono ?_
    rintro e w3 ⟨rfl, h3⟩
    replace h3 := Lib.hid h3
    go_wp2_with fail
    refine (I1.out _).mono ?_
    rintro e w4 ⟨rfl, rfl⟩
    go_wp2_with fail
    refine (R2.out _ h3.out).mono ?_
    rintro e w4 ⟨rfl, h4⟩
    replace h4 := Lib.hid h4
    go_wp2_with fail
    have hd := h4.out.drew
    have HD := Lib.hid hd
    obtain ⟨c0, c1, c2, c3, c4⟩ := HC.out _ hd
    clear hd h2 h3
    go_region_held3 (fun w' => Below (w.heap.size + 1) (w.alloc (Wobj x)) w' ∧ w'.cell? ⟨w.heap.size, 0, none⟩ = some (.slice x.d.sA x.d.sn x.d.sc) ∧ w'.cell? ⟨w.heap.size, 1, none⟩ = some (.slice x.d.zA x.d.zn x.d.zc) ∧ w'.cell? ⟨w.heap.size, 2, none⟩ = some (.slice x.d.lA x.d.ln x.d.lc) ∧ w'.cell? ⟨w.heap.size, 3, none⟩ = some (.slice x.uA x.un x.uc) ∧ w'.cell? ⟨w.heap.size, 4, none⟩ = some (.slice x.bA x.bn x.bc))
      (refine ⟨?_, ?_, ?_, ?_, ?_, ?_⟩ <;> (first | assumption | exact HD.out | exact Below.drew (by assumption) | go_keep))
      (first
        | (go_at_call 16; refine (NB.out _ (by first | assumption | exact HD.out)).mono ?_; rintro e w5 ⟨rfl, hb5⟩; clear c0 c1 c2 c3 c4; obtain ⟨c0, c1, c2, c3, c4⟩ := HC.out _ hb5)
        | (go_at_call 17; refine (K1.out _ (by first | assumption | exact HD.out)).mono ?_; rintro e w5 ⟨rfl, hb5⟩; clear c0 c1 c2 c3 c4; obtain ⟨c0, c1, c2, c3, c4⟩ := HC.out _ hb5)
        | (go_at_call 18; refine (K2.out _ (by first | assumption | exact HD.out)).mono ?_; rintro e w5 ⟨rfl, hb5⟩; clear c0 c1 c2 c3 c4; obtain ⟨c0, c1, c2, c3, c4⟩ := HC.out _ hb5))
    all_goals
      have hfin : Below (w.heap.size + 1) (w.alloc (Wobj x)) _ := (by first | assumption | exact Below.drew (by assumption))
      have HF := Lib.hid (HFIN.out _ hfin)
      go_wp2
      go_ret
      exact ⟨rfl, HF.out⟩
end Go.Proofs.YtbbbeldbhlehnaaGreatDoor
end
