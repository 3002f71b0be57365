/- The walk of NamesOff. -/
import Derived.Test.YtbbbeldbhlehnaaGreatDoorMUNmTl0
import Derived.Test.YtbbbeldbhlehnaaGreatDoorMUNmTl1
import Derived.Test.YtbbbeldbhlehnaaGreatDoorMUNmTl2
import Derived.Test.YtbbbeldbhlehnaaGreatDoorMUNmTl3
import Derived.Test.YtbbbeldbhlehnaaGreatDoorMUNmTl4
import Derived.Test.YtbbbeldbhlehnaaGreatDoorMUNmTl5
import Derived.Test.YtbbbeldbhlehnaaGreatDoorMUNmTl6
import Derived.Test.YtbbbeldbhlehnaaGreatDoorMUNmTl7
import Derived.Test.YtbbbeldbhlehnaaGreatDoorMUNmTl8
import Derived.Test.YtbbbeldbhlehnaaGreatDoorMUNmTl9
import Derived.Test.YtbbbeldbhlehnaaGreatDoorMUNmTl10
import Derived.Test.YtbbbeldbhlehnaaGreatDoorMUNmTl11
import Derived.Test.YtbbbeldbhlehnaaGreatDoorMUNmTl12
import Derived.Test.YtbbbeldbhlehnaaGreatDoorMUNmTl13
import Derived.Test.YtbbbeldbhlehnaaGreatDoorMUNmTl14
import Derived.Test.YtbbbeldbhlehnaaGreatDoorMUNmTl15
import Derived.Test.YtbbbeldbhlehnaaGreatDoorMUNmTl16
import Derived.Test.YtbbbeldbhlehnaaGreatDoorMUNmTl17
import Derived.Test.YtbbbeldbhlehnaaGreatDoorMUNmTl18
import Derived.Test.YtbbbeldbhlehnaaGreatDoorMUNmTl19
import Derived.Test.YtbbbeldbhlehnaaGreatDoorMUNmTl20
import Derived.Test.YtbbbeldbhlehnaaGreatDoorMUNmTl21
import Derived.Test.YtbbbeldbhlehnaaGreatDoorMUNmTl22
import Derived.Test.YtbbbeldbhlehnaaGreatDoorMUNmTl23
import Derived.Test.YtbbbeldbhlehnaaGreatDoorMUNmTl24
import Derived.Test.YtbbbeldbhlehnaaGreatDoorMUNmTl25
import Derived.Test.YtbbbeldbhlehnaaGreatDoorMUNmTl26
import Derived.Test.YtbbbeldbhlehnaaGreatDoorMUNmTl27
import Derived.Test.YtbbbeldbhlehnaaGreatDoorMUNmTl28
import Derived.Test.YtbbbeldbhlehnaaGreatDoorMUNmTl29
import Derived.Test.YtbbbeldbhlehnaaGreatDoorMUNmTl30
import Derived.Test.YtbbbeldbhlehnaaGreatDoorMUNmTl31
import Derived.Test.YtbbbeldbhlehnaaGreatDoorMUNmTl32
import Derived.Test.YtbbbeldbhlehnaaGreatDoorMUNmTl33
import Derived.Test.YtbbbeldbhlehnaaGreatDoorMUNmTl34
import Derived.Test.YtbbbeldbhlehnaaGreatDoorMUNmTl35
import Derived.Test.YtbbbeldbhlehnaaGreatDoorMUNmTl36
import Derived.Test.YtbbbeldbhlehnaaGreatDoorMUNmTl37
import Derived.Test.YtbbbeldbhlehnaaGreatDoorMUNmTl38
set_option linter.unusedSimpArgs false
set_option linter.unusedVariables false
set_option linter.unusedVariables false
set_option linter.unusedSimpArgs false
namespace Gno
open Go Go.RowKit
theorem quo_in {a : Int} (h : -57600 ≤ a ∧ a ≤ 57600) : IntKind.i64.wrap (a.tdiv 60) = a.tdiv 60 := by
  have h1 := Int.tmod_add_tdiv_mul a 60
  obtain ⟨q, hq⟩ : ∃ q, q = a.tdiv 60 := ⟨_, rfl⟩
  rw [← hq] at h1 ⊢
  have hb : (-60 < a.tmod 60 ∧ a.tmod 60 < 60) := by
    rcases Int.le_total 0 a with h | h
    · have e : a.tmod 60 = a % 60 := Int.tmod_eq_emod_of_nonneg h
      rw [e]; omega
    · obtain ⟨b, hb⟩ : ∃ b, a = -b := ⟨-a, by omega⟩
      have e : a.tmod 60 = -(b % 60) := by rw [hb, Int.neg_tmod, Int.tmod_eq_emod_of_nonneg (by omega)]
      rw [e]; omega
  rw [IntKind.wrap_i64]
  omega
end Gno
namespace Go.Proofs.YtbbbeldbhlehnaaGreatDoor
open Go.RowKit Gno
abbrev offO (a b : Int) (s : ByteArray) : Obj := .cells #[.int .i64 a, .int .i64 b, .string s] 46
set_option maxRecDepth 100000 in
set_option maxHeartbeats 16000000 in
theorem namesOff_walk (x : Wd) (loc one two : ByteArray) (t : Int) (w : World) (hW : WdAt w x) (hM : MaxAt w w.heap.size) :
    Calls Tryz.prog 5 #[x.val, .string loc, .string one, .string two, .int .i64 t] w fun e w' => e = .returned (.bool true) ∧ Below w.heap.size w w' := by
  have HX := Lib.hid (fun W (h : Below (w.heap.size + 1) (w.alloc (Wobj x)) W) => boxW hW h)
  have N1 := Lib.hid (fun nm W (h : Below (w.heap.size + 1) (w.alloc (Wobj x)) W) => (nameP_any x loc nm t 1 W (HX.out W h).2.1 (hM.next (HX.out W h).1) (by decide)).mono fun _ _ q => (⟨q.1, boxW_more h q.2⟩ : _ ∧ Below (w.heap.size + 1) (w.alloc (Wobj x)) _))
  have A1 := Lib.hid (fun nm W (h : Below (w.heap.size + 1) (w.alloc (Wobj x)) W) => at_any x.d nm t W (HX.out W h).2.1.1 (hM.next (HX.out W h).1))
  have NB := Lib.hid (fun W (h : Below (w.heap.size + 1) (w.alloc (Wobj x)) W) => namesBegun_any W (hM.next (HX.out W h).1))
  have hbb : Below (w.heap.size + 1) (w.alloc (Wobj x)) (w.alloc (Wobj x)) := Below.refl _ _
  have HFIN : Hid (∀ W, Below (w.heap.size + 1) (w.alloc (Wobj x)) W → Below w.heap.size w W) := Lib.hid fun W h => (HX.out W h).1
  unfold WdCells at HX
  have HC : Hid (∀ W, Below (w.heap.size + 1) (w.alloc (Wobj x)) W → W.cell? ⟨w.heap.size, 0, none⟩ = some (.slice x.d.sA x.d.sn x.d.sc) ∧ W.cell? ⟨w.heap.size, 1, none⟩ = some (.slice x.d.zA x.d.zn x.d.zc) ∧ W.cell? ⟨w.heap.size, 2, none⟩ = some (.slice x.d.lA x.d.ln x.d.lc) ∧ W.cell? ⟨w.heap.size, 3, none⟩ = some (.slice x.uA x.un x.uc) ∧ W.cell? ⟨w.heap.size, 4, none⟩ = some (.slice x.bA x.bn x.bc)) := Lib.hid fun W h => (HX.out W h).2.2
  clear hW hM HX
  unfold Dt.val at A1
  unfold Wd.val at *
  obtain ⟨T1, hT1⟩ : ∃ v, v = nameT x loc one t 1 := ⟨_, rfl⟩
  obtain ⟨T2, hT2⟩ : ∃ v, v = nameT x loc two t 1 := ⟨_, rfl⟩
  obtain ⟨E1, hE1⟩ : ∃ v, v = nameE x loc one t 1 := ⟨_, rfl⟩
  obtain ⟨E2, hE2⟩ : ∃ v, v = nameE x loc two t 1 := ⟨_, rfl⟩
  obtain ⟨F1, hF1⟩ : ∃ v, v = oaE x.d one t := ⟨_, rfl⟩
  obtain ⟨F2, hF2⟩ : ∃ v, v = oaE x.d two t := ⟨_, rfl⟩
  obtain ⟨X, hX⟩ : ∃ v, v = oaTo x.d one t := ⟨_, rfl⟩
  obtain ⟨Y, hY⟩ : ∃ v, v = oaTo x.d two t := ⟨_, rfl⟩
  obtain ⟨S1, hS1⟩ : ∃ v, v = oaSv x.d one t := ⟨_, rfl⟩
  obtain ⟨S2, hS2⟩ : ∃ v, v = oaSv x.d two t := ⟨_, rfl⟩
  obtain ⟨B1, hB1⟩ : ∃ v, v = oaAb x.d one t := ⟨_, rfl⟩
  obtain ⟨B2, hB2⟩ : ∃ v, v = oaAb x.d two t := ⟨_, rfl⟩
  have n1 := Lib.hid (N1.out one)
  have n2 := Lib.hid (N1.out two)
  have a1 := Lib.hid (A1.out one)
  have a2 := Lib.hid (A1.out two)
  rw [← hT1, ← hE1] at n1
  rw [← hT2, ← hE2] at n2
  rw [← hX, ← hS1, ← hB1, ← hF1] at a1
  rw [← hY, ← hS2, ← hB2, ← hF2] at a2
  have HOK : Hid (E1 = 0 → E2 = 0 → F1 = 0 ∧ F2 = 0 ∧ ∃ B Q1 Q2, (T1.toList == T2.toList) = B ∧ IntKind.i64.wrap (X.tdiv 60) = Q1 ∧ IntKind.i64.wrap (Y.tdiv 60) = Q2 ∧ ((Q1 : Int) == Q2) = B) := Lib.hid fun h1 h2 => by
    obtain ⟨z1, k1⟩ := nameE_zero (hE1.symm.trans h1)
    obtain ⟨z2, k2⟩ := nameE_zero (hE2.symm.trans h2)
    have r := rightE_of k1.right.data
    refine ⟨hF1.trans k1.at_.1, hF2.trans k2.at_.1, _, _, _, rfl, quo_in (by rw [hX, k1.at_.2]; exact offTo_bd r k1.mem k1.time.2), quo_in (by rw [hY, k2.at_.2]; exact offTo_bd r k2.mem k2.time.2), ?_⟩
    have h := offS_iff r k1.mem k2.mem k1.time.2
    rw [← k1.byOff.2, ← k2.byOff.2, ← k1.at_.2, ← k2.at_.2, ← hT1, ← hT2, ← hX, ← hY] at h
    rw [Bool.eq_iff_iff, beq_iff_eq]
    exact ⟨fun q => (same_iff _ _).2 (h.2 q), fun q => h.1 ((same_iff _ _).1 q)⟩
  have HCASE : ((E1 != 0) = true) ∨ ((E1 != 0) = false ∧ (E2 != 0) = true) ∨ (E1 = 0 ∧ E2 = 0) := by
    by_cases h1 : E1 = 0
    · by_cases h2 : E2 = 0
      · exact .inr (.inr ⟨h1, h2⟩)
      · exact .inr (.inl ⟨by rw [h1]; rfl, by simpa using h2⟩)
    · exact .inl (by simpa using h1)
  clear hT1 hT2 hE1 hE2 hF1 hF2 hX hY hS1 hS2 hB1 hB2 N1 A1
  rcases HCASE with g1 | ⟨g1, g2⟩ | ⟨g1, g2⟩
  case inl | inr.inl =>
    clear HOK
    go_enter Tryz.func5, Tryz.ntmps5
    go_wp2_with fail
    refine (n1.out _ hbb).mono ?_
    rintro e w1 ⟨rfl, h1⟩
    replace h1 := Lib.hid h1
    obtain ⟨c0, c1, c2, c3, c4⟩ := HC.out _ h1.out
    go_wp2_with fail
    refine (n2.out _ h1.out).mono ?_
    rintro e w2 ⟨rfl, h2⟩
    replace h2 := Lib.hid h2
    clear c0 c1 c2 c3 c4 h1 hbb
    obtain ⟨c0, c1, c2, c3, c4⟩ := HC.out _ h2.out
    go_wp2_with fail
    refine (a1.out _ h2.out).mono ?_
    rintro e w3 ⟨rfl, h3⟩
    have H3 := Lib.hid (boxW_more h2.out h3)
    have HV3 : Hid (Below (w.heap.size + 1) (w.alloc (Wobj x)) (w3.alloc (.cells #[.int .i64 X, .int .i64 S1, .string B1] 46))) := Lib.hid (H3.out.alloc (by have := H3.out.size; simpa using this) _)
    clear c0 c1 c2 c3 c4 h2 h3
    obtain ⟨c0, c1, c2, c3, c4⟩ := HC.out _ HV3.out
    go_wp2_with fail
    refine (a2.out _ HV3.out).mono ?_
    rintro e w4 ⟨rfl, h4⟩
    have H4 := Lib.hid (boxW_more HV3.out h4)
    have HV4 : Hid (Below (w.heap.size + 1) (w.alloc (Wobj x)) (w4.alloc (.cells #[.int .i64 Y, .int .i64 S2, .string B2] 46))) := Lib.hid (H4.out.alloc (by have := H4.out.size; simpa using this) _)
    clear c0 c1 c2 c3 c4 h4
    go_wp2_with fail
    refine (NB.out _ HV4.out).mono ?_
    rintro e w5 ⟨rfl, h5⟩
    have HF := Lib.hid (HFIN.out _ (boxW_more HV4.out h5))
    clear h5
    go_wp2
    go_ret
    exact ⟨rfl, HF.out⟩
  case inr.inr =>
    obtain ⟨f1, f2, B, Q1, Q2, hb, hq1, hq2, hqq⟩ := HOK.out g1 g2
    subst g1 g2 f1 f2
    clear HOK
    go_enter Tryz.func5, Tryz.ntmps5
    go_wp2_with fail
    refine (n1.out _ hbb).mono ?_
    rintro e w1 ⟨rfl, h1⟩
    replace h1 := Lib.hid h1
    obtain ⟨c0, c1, c2, c3, c4⟩ := HC.out _ h1.out
    go_wp2_with fail
    refine (n2.out _ h1.out).mono ?_
    rintro e w2 ⟨rfl, h2⟩
    replace h2 := Lib.hid h2
    clear c0 c1 c2 c3 c4 h1 hbb
    obtain ⟨c0, c1, c2, c3, c4⟩ := HC.out _ h2.out
    go_wp2_with fail
    refine (a1.out _ h2.out).mono ?_
    rintro e w3 ⟨rfl, h3⟩
    have H3 := Lib.hid (boxW_more h2.out h3)
    have HV3 : Hid (Below (w.heap.size + 1) (w.alloc (Wobj x)) (w3.alloc (.cells #[.int .i64 X, .int .i64 S1, .string B1] 46))) := Lib.hid (H3.out.alloc (by have := H3.out.size; simpa using this) _)
    clear c0 c1 c2 c3 c4 h2 h3
    obtain ⟨c0, c1, c2, c3, c4⟩ := HC.out _ HV3.out
    go_wp2_with fail
    refine (a2.out _ HV3.out).mono ?_
    rintro e w4 ⟨rfl, h4⟩
    have H4 := Lib.hid (boxW_more HV3.out h4)
    have HV4 : Hid (Below (w.heap.size + 1) (w.alloc (Wobj x)) (w4.alloc (.cells #[.int .i64 Y, .int .i64 S2, .string B2] 46))) := Lib.hid (H4.out.alloc (by have := H4.out.size; simpa using this) _)
    have HK : Hid (∀ W, Below (w4.heap.size + 1) (w4.alloc (.cells #[.int .i64 Y, .int .i64 S2, .string B2] 46)) W → W.cell? ⟨w3.heap.size, 0, none⟩ = some (.int .i64 X) ∧ W.cell? ⟨w4.heap.size, 0, none⟩ = some (.int .i64 Y)) := Lib.hid fun W h => by
      have k4 := (h.block w4.heap.size (by omega)).trans (World.alloc_heap_new w4 (.cells #[.int .i64 Y, .int .i64 S2, .string B2] 46))
      have hlt : w3.heap.size < w4.heap.size := by have := h4.size; simp at this; omega
      have k3 := (h.block w3.heap.size (by omega)).trans ((Below.heap_alloc _ _ _ hlt).trans ((h4.block w3.heap.size (by simp)).trans (World.alloc_heap_new w3 (.cells #[.int .i64 X, .int .i64 S1, .string B1] 46))))
      exact ⟨cell_ofU k3 rfl, cell_ofU k4 rfl⟩
    clear c0 c1 c2 c3 c4 h4
    go_wp2_with fail
    refine (NB.out _ HV4.out).mono ?_
    rintro e w5 ⟨rfl, h5⟩
    have HF := Lib.hid (HFIN.out _ (boxW_more HV4.out h5))
    obtain ⟨kx, ky⟩ := HK.out w5 (by have := h5; simpa using this)
    clear h5
    go_wp2
    go_ret
    exact ⟨rfl, HF.out⟩
end Go.Proofs.YtbbbeldbhlehnaaGreatDoor
