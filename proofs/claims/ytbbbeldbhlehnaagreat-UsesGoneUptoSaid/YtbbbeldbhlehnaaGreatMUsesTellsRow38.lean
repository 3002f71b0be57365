/- Parts of a proof, laid together. -/
import Derived.Deep.RegionHeld3
import Derived.Test.YtbbbeldbhlehnaaGreatMUsesTellsRow37
import Derived.Test.YtbbbeldbhlehnaaGreatMUsesTellsRow31
set_option linter.unusedSimpArgs false
set_option linter.unusedVariables false
/-! The reference's SameTexts, at two rows of the same texts; called(). -/
section
set_option linter.unusedVariables false
set_option linter.unusedSimpArgs false
namespace Go.Proofs.YtbbbeldbhlehnaaGreat
open Go.RowKit Gno
set_option maxRecDepth 100000 in
set_option maxHeartbeats 4000000 in
theorem sameTexts_any (v v' : Value) (n B1 B2 : Nat) (l : List ByteArray) (w : World) (h : w.ownsRow B1 9 1 v n (strs l)) (h' : w.ownsRow B2 9 1 v' n (strs l)) (hn : n ≤ 1000) :
    Calls Tryz.prog 13 #[v, v'] w fun e w' => e = .returned (.bool true) ∧ Below w.heap.size w w' := by
  have hl : l.length = n := by have := h.1; unfold strs at this; simpa using this
  obtain ⟨A, cap, rfl, hA⟩ := own_formU h
  obtain ⟨A', cap', rfl, hA'⟩ := own_formU h'
  have HRD : Hid (∀ i x, l[i]? = some x → ∃ g g', A = some ⟨g, 0, none⟩ ∧ A' = some ⟨g', 0, none⟩ ∧ ∀ W, Below w.heap.size w W → W.cell? ⟨g, i, none⟩ = some (.string x) ∧ W.cell? ⟨g', i, none⟩ = some (.string x)) := Lib.hid (fun i x hx => by
    have hi := (List.getElem?_eq_some_iff.1 hx).1
    obtain ⟨g, rfl⟩ := hA (by omega)
    obtain ⟨g', rfl⟩ := hA' (by omega)
    exact ⟨g, g', rfl, rfl, fun W hW => ⟨(hW.cell (h.lt g rfl).2).trans (own_cellU h (strs_at hx)), (hW.cell (h'.lt g' rfl).2).trans (own_cellU h' (strs_at hx))⟩⟩)
  have HL := Lib.hid hl
  have hne : ((n : Int) != (n : Int)) = false := by simp
  clear h h' hA hA' hl
  go_enter Tryz.func13, Tryz.ntmps13
  go_wp2
  go_loopw [5] (fun b0 wr => ∃ i : Nat, i ≤ n ∧ b0 = .int .i64 i ∧ Hid (Below w.heap.size w wr)) (fun b0 _ => n - (intOf b0).toNat)
  case atStart => exact ⟨0, Nat.zero_le _, rfl, Lib.hid (Below.refl _ _)⟩
  case round =>
    obtain ⟨i, hi, rfl, hb⟩ := hrel
    by_cases hlt : i < n
    · obtain ⟨x, hx⟩ : ∃ x, l[i]? = some x := ⟨_, List.getElem?_eq_getElem (by rw [HL.out]; exact hlt)⟩
      obtain ⟨g, g', rfl, rfl, hc⟩ := HRD.out i x hx
      obtain ⟨c0, c1⟩ := hc _ hb.out
      have hs : (x.toList == x.toList) = true := by simp
      clear hx hc
      go_wp2_with fail
      go_quiet (fail)
      have HB2 := Lib.hid (below_drewN hb.out nq)
      clear hb c0 c1
      go_wp2_with fail
      go_roundw
      case rel => exact ⟨i + 1, by omega, by go_num, HB2⟩
      case measure => simp [intOf]; omega
    · go_wp2
      go_ret
      exact ⟨rfl, hb.out⟩
end Go.Proofs.YtbbbeldbhlehnaaGreat
end
/-! What must be in any case of uses: the plain values; called(). -/
section
set_option linter.unusedVariables false
set_option linter.unusedSimpArgs false
namespace Gno
open Go
def sMid : ByteArray := ⟨#[109, 105, 100]⟩
def sAx : ByteArray := ⟨#[97]⟩
def uCall : List Us := [⟨sOld, 500000000, 1893456000, sMid⟩, ⟨sAW, 0, 1000, sMid⟩]
def uOver : List Us := [⟨sOld, 500000000, 1893456000, sMid⟩, ⟨sOld, 0, 500000001, sAx⟩]
theorem eu_call (k : Nat) : usesE (euD k (-1) sOld) uCall = 0 := by
  unfold usesE
  rw [if_neg (by rw [eu_ok]; simp), if_neg (by decide), if_neg (by rw [show hasP badMt uCall = false from by kernel_rfl]; simp), if_neg (by rw [show hasP (noZone (euD k (-1) sOld)) uCall = false from by kernel_rfl]; simp),
    if_neg (by rw [show hasP badUse uCall = false from by kernel_rfl]; simp), if_neg (by rw [show overU uCall = false from by kernel_rfl]; simp)]
theorem eu_over (k : Nat) : usesE (euD k (-1) sOld) uOver = 6 := by
  unfold usesE
  rw [if_neg (by rw [eu_ok]; simp), if_neg (by decide), if_neg (by rw [show hasP badMt uOver = false from by kernel_rfl]; simp), if_neg (by rw [show hasP (noZone (euD k (-1) sOld)) uOver = false from by kernel_rfl]; simp),
    if_neg (by rw [show hasP badUse uOver = false from by kernel_rfl]; simp), if_pos (by kernel_rfl)]
theorem eu_asked (k : Nat) {t : Int} (h : ¬ (t < 0 ∨ 1893456000 ≤ t)) : askedE (euD k (-1) sOld) uCall t = 0 := Go.Proofs.YtbbbeldbhlehnaaGreat.askedE_ok (eu_call k) h
theorem eu_mT (k : Nat) : metaE (euD k (-1) sOld) uCall sTt 500000000 = 0 ∧ metaT (euD k (-1) sOld) uCall sTt 500000000 = sMid := by
  have h : leadN (euD k (-1) sOld) sTt = 0 := by kernel_rfl
  obtain ⟨a, b⟩ := metaE_is (l := uCall) (t := 500000000) (nm := sTt) (eu_asked k (by omega)) (by rw [h]; omega) (z := ⟨sOld, some ⟨k + 3, 0, none⟩, 2, 2, [⟨1800, -1, 0, sLMT, 500000000⟩, ⟨3600, 0, 0, sCEsT, 1893456000⟩]⟩) (by rw [h]; rfl)
  exact ⟨a, by rw [b]; kernel_rfl⟩
theorem eu_mTown (k : Nat) : metaE (euD k (-1) sOld) uCall sTown 7 = 0 ∧ metaT (euD k (-1) sOld) uCall sTown 7 = ⟨#[]⟩ := by
  have h : leadN (euD k (-1) sOld) sTown = 0 := by kernel_rfl
  obtain ⟨a, b⟩ := metaE_is (l := uCall) (t := 7) (nm := sTown) (eu_asked k (by omega)) (by rw [h]; omega) (z := ⟨sOld, some ⟨k + 3, 0, none⟩, 2, 2, [⟨1800, -1, 0, sLMT, 500000000⟩, ⟨3600, 0, 0, sCEsT, 1893456000⟩]⟩) (by rw [h]; rfl)
  exact ⟨a, by rw [b]; kernel_rfl⟩
theorem eu_mX (k : Nat) : metaE (euD k (-1) sOld) uCall sXx1 7 = 4 ∧ metaT (euD k (-1) sOld) uCall sXx1 7 = ⟨#[]⟩ := by
  have h : leadN (euD k (-1) sOld) sXx1 = -1 := by kernel_rfl
  exact metaE_none (eu_asked k (by omega)) (by rw [h]; omega)
theorem eu_zMid (k : Nat) : zonesE (euD k (-1) sOld) uCall sMid 7 = 0 ∧ zonesR (euD k (-1) sOld) uCall sMid 7 = [sAW] := by
  obtain ⟨a, b⟩ := zonesE_is (d := euD k (-1) sOld) (l := uCall) (mt := sMid) (t := 7) (eu_asked k (by omega)) (by kernel_rfl)
  refine ⟨a, ?_⟩
  rw [b]
  have h : zonesL (euD k (-1) sOld) uCall sMid 7 = [sAW] := by
    have h1 : zoneHas uCall sMid 7 ⟨sOld, some ⟨k + 3, 0, none⟩, 2, 2, [⟨1800, -1, 0, sLMT, 500000000⟩, ⟨3600, 0, 0, sCEsT, 1893456000⟩]⟩ = false := by kernel_rfl
    have h2 : zoneHas uCall sMid 7 ⟨sAW, some ⟨k + 4, 0, none⟩, 1, 1, [⟨-18000, -1, 3600, sXT, 1893456000⟩]⟩ = true := by kernel_rfl
    show List.map _ (List.filter _ [_, _]) = _
    rw [List.filter_cons_of_neg (by rw [h1]; simp), List.filter_cons_of_pos h2]
    rfl
  unfold zonesS
  rw [h]
  unfold sortB
  exact List.mergeSort_singleton _
end Gno
namespace Go.Proofs.YtbbbeldbhlehnaaGreat
open Go.RowKit Gno
/-- the block of called(). -/
abbrev calO : Obj := .cells #[.string ⟨#[69, 47, 79, 108, 100, 95, 84, 111, 119, 110]⟩, .int .i64 500000000, .int .i64 1893456000, .string ⟨#[109, 105, 100]⟩, .string ⟨#[65, 47, 87, 101, 115, 116]⟩, .int .i64 0, .int .i64 1000, .string ⟨#[109, 105, 100]⟩] 43
set_option maxRecDepth 100000 in
theorem called_any (w : World) : Calls Tryz.prog 26 #[] w fun e w' => e = .returned (.slice (some ⟨w.heap.size, 0, none⟩) 2 2) ∧ w' = w.alloc calO := by
  go_enter Tryz.func26, Tryz.ntmps26
  go_wp2
  go_ret
  exact ⟨rfl, rfl⟩
theorem cal_at {W : World} {b : Nat} (h : W.heap[b]? = some calO) : UsesAt W W.heap.size (some ⟨b, 0, none⟩) 2 uCall := by
  refine ⟨rfl, by unfold maxLen; omega, fun _ => ⟨b, 0, rfl, (Array.getElem?_eq_some_iff.1 h).1, fun i x hx => ?_⟩⟩
  match i, hx with
  | 0, hx =>
    obtain rfl : (⟨sOld, 500000000, 1893456000, sMid⟩ : Us) = x := by simpa [uCall] using hx
    exact ⟨⟨cell_of h rfl, cell_of h rfl, cell_of h rfl, cell_of h rfl⟩, (show (10 : Nat) ≤ maxLen by unfold maxLen; omega), (show (3 : Nat) ≤ maxLen by unfold maxLen; omega)⟩
  | 1, hx =>
    obtain rfl : (⟨sAW, 0, 1000, sMid⟩ : Us) = x := by simpa [uCall] using hx
    exact ⟨⟨cell_of h rfl, cell_of h rfl, cell_of h rfl, cell_of h rfl⟩, (show (6 : Nat) ≤ maxLen by unfold maxLen; omega), (show (3 : Nat) ≤ maxLen by unfold maxLen; omega)⟩
  | i + 2, hx => simp [uCall] at hx
end Go.Proofs.YtbbbeldbhlehnaaGreat
end
/-! usesBegun. -/
section
set_option linter.unusedVariables false
set_option linter.unusedSimpArgs false
namespace Go.Proofs.YtbbbeldbhlehnaaGreat
open Go.RowKit Gno
abbrev ovO : Obj := .cells #[.string ⟨#[69, 47, 79, 108, 100, 95, 84, 111, 119, 110]⟩, .int .i64 500000000, .int .i64 1893456000, .string ⟨#[109, 105, 100]⟩, .string ⟨#[69, 47, 79, 108, 100, 95, 84, 111, 119, 110]⟩, .int .i64 0, .int .i64 500000001, .string ⟨#[97]⟩] 43
theorem ov_at {W : World} {b : Nat} (h : W.heap[b]? = some ovO) : UsesAt W W.heap.size (some ⟨b, 0, none⟩) 2 uOver := by
  refine ⟨rfl, by unfold maxLen; omega, fun _ => ⟨b, 0, rfl, (Array.getElem?_eq_some_iff.1 h).1, fun i x hx => ?_⟩⟩
  match i, hx with
  | 0, hx =>
    obtain rfl : (⟨sOld, 500000000, 1893456000, sMid⟩ : Us) = x := by simpa [uOver] using hx
    exact ⟨⟨cell_of h rfl, cell_of h rfl, cell_of h rfl, cell_of h rfl⟩, (show (10 : Nat) ≤ maxLen by unfold maxLen; omega), (show (3 : Nat) ≤ maxLen by unfold maxLen; omega)⟩
  | 1, hx =>
    obtain rfl : (⟨sOld, 0, 500000001, sAx⟩ : Us) = x := by simpa [uOver] using hx
    exact ⟨⟨cell_of h rfl, cell_of h rfl, cell_of h rfl, cell_of h rfl⟩, (show (10 : Nat) ≤ maxLen by unfold maxLen; omega), (show (1 : Nat) ≤ maxLen by unfold maxLen; omega)⟩
  | i + 2, hx => simp [uOver] at hx
theorem west_row (W : World) : (W.alloc (.cells #[.string ⟨#[65, 47, 87, 101, 115, 116]⟩] 9)).ownsRow W.heap.size 9 1 (.slice (some ⟨W.heap.size, 0, none⟩) 1 1) 1 (strs [sAW]) :=
  ⟨rfl, .inr ⟨W.heap.size, 1, #[.string ⟨#[65, 47, 87, 101, 115, 116]⟩], rfl, Nat.le_refl _, World.alloc_heap_new _ _, Nat.le_refl _, by decide, rfl, rfl⟩⟩
/-- europe, called, in one world. -/
abbrev ecW (w : World) : World := (euW w).alloc calO
theorem ec_next {w0 w : World} (h : Below w0.heap.size w0 w) : Below w0.heap.size w0 (ecW w) := (euW_next h).alloc (euW_next h).size _
theorem ec_ctx (w : World) : EuIn (ecW w) w.heap.size (-1) sOld ∧ w.heap.size + 7 ≤ (ecW w).heap.size ∧ (ecW w).heap[(euW w).heap.size]? = some calO :=
  ⟨(euW_in w).below ((Below.refl _ _).alloc (Nat.le_refl _) _) (by rw [euW_size]; omega), by simp [ecW, euW_size], World.alloc_heap_new _ _⟩
section
variable {w0 w : World}
theorem ub_meta (hb : Below w0.heap.size w0 w) (hM : MaxAt w0 w0.heap.size) {nm m : ByteArray} {t e : Int} (h : metaE (euD w.heap.size (-1) sOld) uCall nm t = e ∧ metaT (euD w.heap.size (-1) sOld) uCall nm t = m) :
    Calls Tryz.prog 6 #[.agg #[.slice (some ⟨w.heap.size + 2, 0, none⟩) 1 1, .slice (some ⟨w.heap.size + 5, 0, none⟩) 2 2, .slice (some ⟨w.heap.size + 6, 0, none⟩) 2 2], .slice (some ⟨(euW w).heap.size, 0, none⟩) 2 2, .string nm, .int .i64 t] (ecW w) fun e' w' => e' = .returned (.tuple #[.string m, .int .i64 e]) ∧ Below w0.heap.size w0 w' := by
  obtain ⟨h1, h2, h3⟩ := ec_ctx w
  have := usesMeta_any (euD w.heap.size (-1) sOld) (some ⟨(euW w).heap.size, 0, none⟩) 2 2 uCall nm t (ecW w) (eu_data h1 h2 old_le) (hM.next (ec_next hb)) (cal_at h3)
  rw [h.1, h.2] at this
  exact this.mono fun _ _ q => ⟨q.1, (ec_next hb).trans (q.2.mono (ec_next hb).size)⟩
theorem ub_zones (hb : Below w0.heap.size w0 w) (hM : MaxAt w0 w0.heap.size) :
    Calls Tryz.prog 7 #[.agg #[.slice (some ⟨w.heap.size + 2, 0, none⟩) 1 1, .slice (some ⟨w.heap.size + 5, 0, none⟩) 2 2, .slice (some ⟨w.heap.size + 6, 0, none⟩) 2 2], .slice (some ⟨(euW w).heap.size, 0, none⟩) 2 2, .string ⟨#[109, 105, 100]⟩, .int .i64 7] (ecW w) fun e' w' => ∃ v, e' = .returned (.tuple #[v, .int .i64 0]) ∧ w'.ownsRow w0.heap.size 9 1 v 1 (strs [sAW]) ∧ Below w0.heap.size w0 w' := by
  obtain ⟨h1, h2, h3⟩ := ec_ctx w
  have := usesZones_any (euD w.heap.size (-1) sOld) (some ⟨(euW w).heap.size, 0, none⟩) 2 2 uCall ⟨#[109, 105, 100]⟩ 7 (ecW w) (eu_data h1 h2 old_le) (hM.next (ec_next hb)) (cal_at h3) (show (3 : Nat) ≤ maxLen by unfold maxLen; omega)
  rw [show zonesE (euD w.heap.size (-1) sOld) uCall ⟨#[109, 105, 100]⟩ 7 = 0 from (eu_zMid _).1, show zonesR (euD w.heap.size (-1) sOld) uCall ⟨#[109, 105, 100]⟩ 7 = [sAW] from (eu_zMid _).2] at this
  exact this.mono fun _ _ ⟨v, q1, q2, q3⟩ => ⟨v, q1, own_baseU q2 (by have := (ec_next hb).size; omega), (ec_next hb).trans (q3.mono (ec_next hb).size)⟩
theorem ub_check (hb : Below w0.heap.size w0 w) (hM : MaxAt w0 w0.heap.size) :
    Calls Tryz.prog 11 #[.agg #[.slice (some ⟨w.heap.size + 2, 0, none⟩) 1 1, .slice (some ⟨w.heap.size + 5, 0, none⟩) 2 2, .slice (some ⟨w.heap.size + 6, 0, none⟩) 2 2], .slice (some ⟨(euW w).heap.size, 0, none⟩) 2 2] (ecW w) fun e' w' => e' = .returned (.int .i64 0) ∧ Below (ecW w).heap.size (ecW w) w' := by
  obtain ⟨h1, h2, h3⟩ := ec_ctx w
  have := usesCk_any (euD w.heap.size (-1) sOld) (some ⟨(euW w).heap.size, 0, none⟩) 2 2 uCall (ecW w) (eu_data h1 h2 old_le) (hM.next (ec_next hb)) (cal_at h3)
  rw [eu_call] at this
  exact this
theorem ub_over (hb : Below w0.heap.size w0 w) (hM : MaxAt w0 w0.heap.size) {b : Nat} (h : w.heap[b]? = some ovO) :
    Calls Tryz.prog 11 #[.agg #[.slice (some ⟨w.heap.size + 2, 0, none⟩) 1 1, .slice (some ⟨w.heap.size + 5, 0, none⟩) 2 2, .slice (some ⟨w.heap.size + 6, 0, none⟩) 2 2], .slice (some ⟨b, 0, none⟩) 2 2] (euW w) fun e' w' => e' = .returned (.int .i64 6) ∧ Below (euW w).heap.size (euW w) w' := by
  have hbl := (Array.getElem?_eq_some_iff.1 h).1
  have := usesCk_any (euD w.heap.size (-1) sOld) (some ⟨b, 0, none⟩) 2 2 uOver (euW w) (eu_data (euW_in w) (by rw [euW_size]; omega) old_le) (hM.next (euW_next hb)) (ov_at (((euW_below w).block b hbl).trans h))
  rw [eu_over] at this
  exact this
end
set_option maxRecDepth 100000 in
set_option maxHeartbeats 8000000 in
theorem usesBegun_any (w : World) (hM : MaxAt w w.heap.size) :
    Calls Tryz.prog 10 #[] w fun e w' => e = .returned (.bool true) ∧ Below w.heap.size w w' := by
  have SP := Lib.hid eu_mk
  have CL := Lib.hid called_any
  have M1 := Lib.hid (fun w1 (h : Below w.heap.size w w1) => ub_meta h hM (nm := ⟨#[84]⟩) (m := ⟨#[109, 105, 100]⟩) (t := 500000000) (e := 0) (eu_mT w1.heap.size))
  have M2 := Lib.hid (fun w1 (h : Below w.heap.size w w1) => ub_meta h hM (nm := ⟨#[84, 111, 119, 110]⟩) (m := ⟨#[]⟩) (t := 7) (e := 0) (eu_mTown w1.heap.size))
  have M3 := Lib.hid (fun (W0 w1 : World) (h : Below W0.heap.size W0 w1) (hM : MaxAt W0 W0.heap.size) => ub_meta h hM (nm := ⟨#[88]⟩) (m := ⟨#[]⟩) (t := 7) (e := 4) (eu_mX w1.heap.size))
  have Z1 := Lib.hid (fun w1 (h : Below w.heap.size w w1) => ub_zones h hM)
  have K1 := Lib.hid (fun (W0 w1 : World) (h : Below W0.heap.size W0 w1) (hM : MaxAt W0 W0.heap.size) => ub_check h hM)
  have K2 := Lib.hid (fun (W0 w1 : World) b (h : Below W0.heap.size W0 w1) (hM : MaxAt W0 W0.heap.size) (h2 : w1.heap[b]? = some ovO) => ub_over h hM h2)
  have MX := Lib.hid (fun w1 (h : Below w.heap.size w w1) => hM.next h)
  have ST := Lib.hid (fun v v' n B1 B2 l W h h' hn => sameTexts_any v v' n B1 B2 l W h h' hn)
  have h0 : Hid (Below w.heap.size w w) := Lib.hid (Below.refl _ _)
  clear hM
  go_enter Tryz.func10, Tryz.ntmps10
  go_wp2_with fail
  refine (SP.out _).mono ?_
  rintro e w' ⟨rfl, rfl⟩
  go_wp2_with fail
  refine (CL.out _).mono ?_
  rintro e w' ⟨rfl, rfl⟩
  go_wp2_with fail
  refine (M1.out _ h0.out).mono ?_
  rintro e w1 ⟨rfl, h1⟩
  replace h1 := Lib.hid h1
  go_wp2_with fail
  refine (SP.out _).mono ?_
  rintro e w' ⟨rfl, rfl⟩
  go_wp2_with fail
  refine (CL.out _).mono ?_
  rintro e w' ⟨rfl, rfl⟩
  go_wp2_with fail
  refine (M2.out _ h1.out).mono ?_
  rintro e w2 ⟨rfl, h2⟩
  replace h2 := Lib.hid h2
  go_wp2_with fail
  refine (SP.out _).mono ?_
  rintro e w' ⟨rfl, rfl⟩
  go_wp2_with fail
  refine (CL.out _).mono ?_
  rintro e w' ⟨rfl, rfl⟩
  go_wp2_with fail
  refine (Z1.out _ h2.out).mono ?_
  rintro e w3 ⟨v3, rfl, hz3, h3⟩
  replace hz3 := Lib.hid hz3
  replace h3 := Lib.hid h3
  go_wp2_with fail
  refine (SP.out _).mono ?_
  rintro e w' ⟨rfl, rfl⟩
  go_wp2_with fail
  refine (CL.out _).mono ?_
  rintro e w' ⟨rfl, rfl⟩
  go_wp2_with fail
  have M3' := M3.out w3 w3 (Below.refl _ _) (MX.out _ h3.out)
  refine M3'.mono ?_
  rintro e w4 ⟨rfl, h4⟩
  replace h4 := Lib.hid h4
  clear M3 M3' M1 M2 Z1 h0 h1 h2
  go_wp2_with fail
  refine (CL.out _).mono ?_
  rintro e w' ⟨rfl, rfl⟩
  go_wp2_with fail
  obtain ⟨wX, hwX⟩ : ∃ wX : World, wX = w4.alloc ovO := ⟨_, rfl⟩
  have HX : Hid (wX.heap[w4.heap.size]? = some ovO) := Lib.hid (by rw [hwX]; exact World.alloc_heap_new _ _)
  have HBX : Hid (Below w3.heap.size w3 wX) := Lib.hid (by rw [hwX]; exact h4.out.alloc h4.out.size _)
  rw [← hwX]
  clear hwX
  refine (SP.out _).mono ?_
  rintro e w' ⟨rfl, rfl⟩
  go_wp2_with fail
  refine (CL.out _).mono ?_
  rintro e w' ⟨rfl, rfl⟩
  go_wp2_with fail
  refine (K1.out w3 _ HBX.out (MX.out _ h3.out)).mono ?_
  rintro e w5 ⟨rfl, h5⟩
  have HB5 : Hid (Below w3.heap.size w3 w5) := Lib.hid ((ec_next HBX.out).trans (h5.mono (ec_next HBX.out).size))
  have HX5 : Hid (w5.heap[w4.heap.size]? = some ovO) := Lib.hid (by
    have hl := (Array.getElem?_eq_some_iff.1 HX.out).1
    have h9 := (ec_next (Below.refl wX.heap.size wX))
    exact (h5.block _ (by have := h9.size; omega)).trans ((h9.block _ hl).trans HX.out))
  clear h5
  go_wp2_with fail
  refine (SP.out _).mono ?_
  rintro e w' ⟨rfl, rfl⟩
  go_wp2_with fail
  refine (K2.out w3 _ _ HB5.out (MX.out _ h3.out) HX5.out).mono ?_
  rintro e w6 ⟨rfl, h6⟩
  have HB6 : Hid (Below w3.heap.size w3 w6) := Lib.hid ((euW_next HB5.out).trans (h6.mono (euW_next HB5.out).size))
  have HB7 : Hid (Below w3.heap.size w3 (w6.alloc (.cells #[.string ⟨#[65, 47, 87, 101, 115, 116]⟩] 9))) := Lib.hid (HB6.out.alloc HB6.out.size _)
  have HZ7 := Lib.hid (own_belowU hz3.out HB7.out (Nat.le_refl _))
  have HW7 := Lib.hid (west_row w6)
  clear h6
  go_wp2_with fail
  refine (ST.out _ _ _ _ _ _ _ HZ7.out HW7.out (by omega)).mono ?_
  rintro e w8 ⟨rfl, h8⟩
  have hfin : Below w.heap.size w w8 := (h3.out.trans (HB7.out.mono h3.out.size)).trans (h8.mono (by have := h3.out.size; have := HB7.out.size; omega))
  clear h8
  go_wp2
  go_ret
  exact ⟨rfl, hfin⟩
end Go.Proofs.YtbbbeldbhlehnaaGreat
end
/-! The walk of UsesTells. -/
section
set_option linter.unusedVariables false
set_option linter.unusedSimpArgs false
namespace Gno
open Go
theorem zonesR_few {d : Dt} {l : List Us} {mt : ByteArray} {t : Int} (hz : d.zs.length = d.zn) : (zonesR d l mt t).length ≤ 5 := by
  unfold zonesR
  by_cases e : zonesE d l mt t = 0
  · rw [if_pos e]
    have ha : askedE d l t = 0 := by
      by_cases q : askedE d l t = 0
      · exact q
      · rw [(zonesE_asked q).1] at e; exact e
    have h1 := asked_few ha
    unfold zonesS
    rw [sortB_len, ← zonesUp_end (i := d.zn) (by omega)]
    have := zonesUp_len (d := d) (l := l) (mt := mt) (t := t) d.zn
    omega
  · rw [if_neg e]; simp
end Gno
namespace Go.Proofs.YtbbbeldbhlehnaaGreat
open Go.RowKit Gno
set_option maxRecDepth 100000 in
set_option maxHeartbeats 8000000 in
theorem usesTells_walk (d : Dt) (A : Option Addr) (n cap : Nat) (l : List Us) (nm mt : ByteArray) (t : Int) (w : World) (hD : DataAt w w.heap.size d) (hM : MaxAt w w.heap.size) (hU : UsesAt w w.heap.size A n l) (hmt : mt.size ≤ maxLen) :
    Calls Tryz.prog 3 #[d.val, .slice A n cap, .string nm, .string mt, .int .i64 t] w fun e w' => e = .returned (.bool true) ∧ Below w.heap.size w w' := by
  have HX := Lib.hid (fun W (h : Below (w.heap.size + 1) (w.alloc (Dobj d)) W) => boxU hD hU h)
  have MX := Lib.hid (fun W (h : Below w.heap.size w W) => hM.next h)
  have M1 := Lib.hid (fun W (h : Below (w.heap.size + 1) (w.alloc (Dobj d)) W) => usesMeta_any d A n cap l nm t W (HX.out W h).2.1 (MX.out W (HX.out W h).1) (HX.out W h).2.2.1)
  have M2 := Lib.hid (fun W (h : Below (w.heap.size + 1) (w.alloc (Dobj d)) W) => metaR_any d A n cap l nm t W (HX.out W h).2.1 (HX.out W h).2.2.1)
  have Z1 := Lib.hid (fun W (h : Below (w.heap.size + 1) (w.alloc (Dobj d)) W) => usesZones_any d A n cap l mt t W (HX.out W h).2.1 (MX.out W (HX.out W h).1) (HX.out W h).2.2.1 hmt)
  have Z2 := Lib.hid (fun W (h : Below (w.heap.size + 1) (w.alloc (Dobj d)) W) => zonesR_any d A n cap l mt t W (HX.out W h).2.1 (HX.out W h).2.2.1 hmt)
  have K1 := Lib.hid (fun W (h : Below (w.heap.size + 1) (w.alloc (Dobj d)) W) => usesCk_any d A n cap l W (HX.out W h).2.1 (MX.out W (HX.out W h).1) (HX.out W h).2.2.1)
  have K2 := Lib.hid (fun W (h : Below (w.heap.size + 1) (w.alloc (Dobj d)) W) => usesR_any d A n cap l W (HX.out W h).2.1 (HX.out W h).2.2.1)
  have UB := Lib.hid (fun W (h : Below (w.heap.size + 1) (w.alloc (Dobj d)) W) => usesBegun_any W (MX.out W (HX.out W h).1))
  have hfew := zonesR_few (l := l) (mt := mt) (t := t) hD.2.1.1
  have hbb : Below (w.heap.size + 1) (w.alloc (Dobj d)) (w.alloc (Dobj d)) := Below.refl _ _
  clear hD hM hU hmt
  unfold Dt.val at *
  obtain ⟨MT, hMT⟩ : ∃ v, v = metaT d l nm t := ⟨_, rfl⟩
  obtain ⟨ME, hME⟩ : ∃ v, v = metaE d l nm t := ⟨_, rfl⟩
  obtain ⟨ZL, hZL⟩ : ∃ v, v = zonesR d l mt t := ⟨_, rfl⟩
  obtain ⟨ZE, hZE⟩ : ∃ v, v = zonesE d l mt t := ⟨_, rfl⟩
  obtain ⟨UE, hUE⟩ : ∃ v, v = usesE d l := ⟨_, rfl⟩
  rw [← hMT, ← hME] at M1 M2
  rw [← hZL, ← hZE] at Z1 Z2
  rw [← hUE] at K1 K2
  rw [← hZL] at hfew
  clear hMT hME hZL hZE hUE
  have hs : (MT.toList == MT.toList) = true := by simp
  go_enter Tryz.func3, Tryz.ntmps3
  go_wp2_with fail
  refine (M1.out _ hbb).mono ?_
  rintro e w1 ⟨rfl, h1⟩
  have H1 := Lib.hid (box_more hbb h1)
  obtain ⟨_, _, _, c0, c1, c2⟩ := HX.out _ H1.out
  clear h1 hbb
  go_wp2_with fail
  refine (Z1.out _ H1.out).mono ?_
  rintro e w2 ⟨v2, rfl, hz2, h2⟩
  have H2 := Lib.hid (box_more H1.out h2)
  have HZ2 := Lib.hid hz2
  clear h2 hz2 c0 c1 c2
  obtain ⟨_, _, _, c0, c1, c2⟩ := HX.out _ H2.out
  go_wp2_with fail
  refine (M2.out _ H2.out).mono ?_
  rintro e w3 ⟨rfl, h3⟩
  have H3 := Lib.hid (box_more H2.out h3)
  have HZ3 := Lib.hid (own_belowU HZ2.out h3 (Nat.le_refl _))
  clear h3 c0 c1 c2
  obtain ⟨_, _, _, c0, c1, c2⟩ := HX.out _ H3.out
  go_wp2_with fail
  refine (Z2.out _ H3.out).mono ?_
  rintro e w4 ⟨v4, rfl, hz4, h4⟩
  have H4 := Lib.hid (box_more H3.out h4)
  have HZ4 := Lib.hid (own_belowU HZ3.out h4 (Nat.le_refl _))
  have HV4 := Lib.hid hz4
  clear h4 hz4 c0 c1 c2
  have HC : Hid (∀ W, Below w4.heap.size w4 W → W.cell? ⟨w.heap.size, 0, none⟩ = some (.slice d.sA d.sn d.sc) ∧ W.cell? ⟨w.heap.size, 1, none⟩ = some (.slice d.zA d.zn d.zc) ∧ W.cell? ⟨w.heap.size, 2, none⟩ = some (.slice d.lA d.ln d.lc)) := Lib.hid (fun W h => (HX.out W (box_more H4.out h)).2.2.2)
  have K1' := Lib.hid (fun W (h : Below w4.heap.size w4 W) => (K1.out W (box_more H4.out h)).mono fun _ _ q => (⟨q.1, h.trans (q.2.mono h.size)⟩ : _ ∧ Below w4.heap.size w4 _))
  have K2' := Lib.hid (fun W (h : Below w4.heap.size w4 W) => (K2.out W (box_more H4.out h)).mono fun _ _ q => (⟨q.1, h.trans (q.2.mono h.size)⟩ : _ ∧ Below w4.heap.size w4 _))
  have UB' := Lib.hid (fun W (h : Below w4.heap.size w4 W) => (UB.out W (box_more H4.out h)).mono fun _ _ q => (⟨q.1, h.trans (q.2.mono h.size)⟩ : _ ∧ Below w4.heap.size w4 _))
  have ST' := Lib.hid (fun W (h : Below w4.heap.size w4 W) => (sameTexts_any v2 v4 _ _ _ ZL W (own_belowU HZ4.out h (Nat.le_refl _)) (own_belowU HV4.out h (Nat.le_refl _)) (by omega)).mono fun _ _ q => (⟨q.1, h.trans (q.2.mono h.size)⟩ : _ ∧ Below w4.heap.size w4 _))
  have HF := Lib.hid (fun W (h : Below w4.heap.size w4 W) => (HX.out W (box_more H4.out h)).1)
  have hb4 : Below w4.heap.size w4 w4 := Below.refl _ _
  have hb4d : Below w4.heap.size w4 w4.drew := hb4.drew
  obtain ⟨c0, c1, c2⟩ := HC.out _ hb4
  clear K1 K2 UB M1 M2 Z1 Z2 H1 H2 H3 H4 HZ2 HZ3 HZ4 HV4 HX MX
  go_wp2_with fail
  go_region_held3 (fun w' => Below w4.heap.size w4 w' ∧ w'.cell? ⟨w.heap.size, 0, none⟩ = some (.slice d.sA d.sn d.sc) ∧ w'.cell? ⟨w.heap.size, 1, none⟩ = some (.slice d.zA d.zn d.zc) ∧ w'.cell? ⟨w.heap.size, 2, none⟩ = some (.slice d.lA d.ln d.lc))
    (refine ⟨?_, ?_, ?_, ?_⟩ <;> (first | assumption | exact Below.drew (by assumption) | go_keep))
    (first
      | (go_at_call 10; refine (UB'.out _ (by assumption)).mono ?_; rintro e w5 ⟨rfl, hb5⟩; obtain ⟨k0, k1, k2⟩ := HC.out _ hb5)
      | (go_at_call 11; refine (K1'.out _ (by assumption)).mono ?_; rintro e w5 ⟨rfl, hb5⟩; obtain ⟨k0, k1, k2⟩ := HC.out _ hb5)
      | (go_at_call 12; refine (K2'.out _ (by assumption)).mono ?_; rintro e w5 ⟨rfl, hb5⟩; obtain ⟨k0, k1, k2⟩ := HC.out _ hb5)
      | (go_at_call 13; refine (ST'.out _ (by assumption)).mono ?_; rintro e w5 ⟨rfl, hb5⟩; obtain ⟨k0, k1, k2⟩ := HC.out _ hb5))
  all_goals
    have hfin : Below w4.heap.size w4 _ := (by first | assumption | exact Below.drew (by assumption))
    go_wp2
    go_ret
    exact ⟨rfl, HF.out _ (by first | assumption | exact Below.drew (by assumption))⟩
end Go.Proofs.YtbbbeldbhlehnaaGreat
end
