/- Parts of a proof, laid together. -/
import Derived.Deep.RegionHeld3
import Derived.BigRegion
import Derived.Test.YtlngalmdidaahaaMUDataLinksRow31
import Derived.Test.YtlngalmdidaahaaMUDataLinksRow11
import Derived.Test.YtlngalmdidaahaaMUDataLinksRow5
set_option linter.unusedSimpArgs false
set_option linter.unusedVariables false
/-! What must be in any case of data. -/
section
set_option linter.unusedVariables false
namespace Go.Proofs.Ytlngalmdidaahaa
open Go.RowKit Gno
theorem eu_mk (W : World) : Calls Try.prog 16 #[] W fun e w' => e = .returned (.agg #[.slice (some ⟨W.heap.size + 2, 0, none⟩) 1 1, .slice (some ⟨W.heap.size + 5, 0, none⟩) 2 2, .slice (some ⟨W.heap.size + 6, 0, none⟩) 2 2]) ∧ w' = euW W := europe_any W
theorem eu_chk (W : World) (k : Nat) (s2 : Int) (t : ByteArray) (h : EuIn W k s2 t) (hB : k + 7 ≤ W.heap.size) (ht : t.size ≤ maxLen) (hM : MaxAt W W.heap.size) {e : Int} (he : dataE (euD k s2 t) = e) :
    Calls Try.prog 9 #[.agg #[.slice (some ⟨k + 2, 0, none⟩) 1 1, .slice (some ⟨k + 5, 0, none⟩) 2 2, .slice (some ⟨k + 6, 0, none⟩) 2 2]] W fun e' w' => e' = .returned (.int .i64 e) ∧ Below W.heap.size W w' := by
  have := check_any (euD k s2 t) W (eu_data h hB ht) hM
  rwa [he] at this
theorem eu_zone (W : World) (k : Nat) (s2 : Int) (t : ByteArray) (h : EuIn W k s2 t) (hB : k + 7 ≤ W.heap.size) (ht : t.size ≤ maxLen) (hM : MaxAt W W.heap.size) (nm : ByteArray) {z e : Int} (he : zoneK (euD k s2 t) nm = z ∧ zoneEr (euD k s2 t) nm = e) :
    Calls Try.prog 6 #[.agg #[.slice (some ⟨k + 2, 0, none⟩) 1 1, .slice (some ⟨k + 5, 0, none⟩) 2 2, .slice (some ⟨k + 6, 0, none⟩) 2 2], .string nm] W fun e' w' => e' = .returned (.tuple #[.int .i64 z, .int .i64 e]) ∧ Below W.heap.size W w' := by
  have := zone_any (euD k s2 t) nm W (eu_data h hB ht) hM
  rwa [he.1, he.2] at this
theorem euW_next {w0 w : World} (h : Below w0.heap.size w0 w) : Below w0.heap.size w0 (euW w) := h.trans ((euW_below w).mono h.size)
theorem old_le : sOld.size ≤ maxLen := (show (10 : Nat) ≤ maxLen by unfold maxLen; omega)
theorem tt_le : sTt.size ≤ maxLen := (show (1 : Nat) ≤ maxLen by unfold maxLen; omega)
theorem nm_ok : nameOk sOld = true := by kernel_rfl
theorem nm_no1 : nameOk ⟨#[69, 47]⟩ = false := by kernel_rfl
theorem nm_no2 : nameOk ⟨#[49, 97]⟩ = false := by kernel_rfl
/-- a box behind all that was, and a cell of one of the data's blocks written. -/
theorem eu_box (w2 : World) : EuIn ((euW w2).alloc (Dobj (euD w2.heap.size (-1) sOld))) w2.heap.size (-1) sOld :=
  (euW_in w2).below ((Below.refl _ _).alloc (Nat.le_refl _) _) (by rw [euW_size]; omega)
theorem cell_of {W : World} {b o : Nat} {cs : Array Value} {T : TypeId} {v : Value} (h : W.heap[b]? = some (.cells cs T)) (hv : cs[o]? = some v) : W.cell? ⟨b, o, none⟩ = some v := by simp [World.cell?, h, hv]
theorem frozen_of {W : World} {b o : Nat} {cs : Array Value} {T : TypeId} (h : W.heap[b]? = some (.cells cs T)) : W.frozen? ⟨b, o, none⟩ = false := by simp [World.frozen?, h]
set_option maxRecDepth 100000 in
set_option maxHeartbeats 4000000 in
theorem dataBegun_any (w : World) (hM : MaxAt w w.heap.size) :
    Calls Try.prog 8 #[] w fun e w' => e = .returned (.bool true) ∧ Below w.heap.size w w' := by
  have SP := Lib.hid eu_mk
  have NX : Hid (∀ {w1 : World}, Below w.heap.size w w1 → Below w.heap.size w (euW w1)) := Lib.hid (fun h => euW_next h)
  have MX : Hid (∀ {w1 : World}, Below w.heap.size w w1 → MaxAt w1 w1.heap.size) := Lib.hid (fun h => hM.next h)
  have T1 := Lib.hid (fun (W : World) h => eu_zone (euW W) W.heap.size (-1) sOld (euW_in W) (by rw [euW_size]; omega) old_le h sTt (eu_T _))
  have T2 := Lib.hid (fun (W : World) h => eu_zone (euW W) W.heap.size (-1) sOld (euW_in W) (by rw [euW_size]; omega) old_le h sXx1 (eu_X _))
  have K1 := Lib.hid (fun (W : World) h => eu_chk (euW W) W.heap.size (-1) sOld (euW_in W) (by rw [euW_size]; omega) old_le h (eu_ok _))
  have K2 := Lib.hid (fun (W : World) (k : Nat) h hB h2 => eu_chk W k (-1) sTt h hB tt_le h2 (eu_round _))
  have K3 := Lib.hid (fun (W : World) (k : Nat) h hB h2 => eu_chk W k 0 sOld h hB old_le h2 (eu_range _))
  clear hM
  go_enter Try.func8, Try.ntmps8
  go_wp2_with fail
  refine (SP.out _).mono ?_
  rintro e w' ⟨rfl, rfl⟩
  go_wp2_with fail
  refine (T1.out _ (MX.out (NX.out (Below.refl _ _)))).mono ?_
  rintro e w1 ⟨rfl, hb1⟩
  have h1 : Below w.heap.size w w1 := (NX.out (Below.refl _ _)).trans (hb1.mono (NX.out (Below.refl _ _)).size)
  clear hb1
  go_wp2_with fail
  refine (SP.out _).mono ?_
  rintro e w' ⟨rfl, rfl⟩
  go_wp2_with fail
  refine (T2.out _ (MX.out (NX.out h1))).mono ?_
  rintro e w2 ⟨rfl, hb2⟩
  have h2 : Below w.heap.size w w2 := (NX.out h1).trans (hb2.mono (NX.out h1).size)
  clear hb2
  have h_w2 := h2
  clear h2
  go_wp2_with fail
  refine (SP.out _).mono ?_
  rintro e w' ⟨rfl, rfl⟩
  have hEB : EuIn ((euW w2).alloc (.cells #[.slice (some ⟨w2.heap.size + 2, 0, none⟩) 1 1, .slice (some ⟨w2.heap.size + 5, 0, none⟩) 2 2, .slice (some ⟨w2.heap.size + 6, 0, none⟩) 2 2] 26)) w2.heap.size (-1) sOld := eu_box w2
  have c1 : ((euW w2).alloc (.cells #[.slice (some ⟨w2.heap.size + 2, 0, none⟩) 1 1, .slice (some ⟨w2.heap.size + 5, 0, none⟩) 2 2, .slice (some ⟨w2.heap.size + 6, 0, none⟩) 2 2] 26)).cell? ⟨w2.heap.size + 6, 1, none⟩ = some (.string sOld) := cell_of hEB.o6 rfl
  have c2 : ((euW w2).alloc (.cells #[.slice (some ⟨w2.heap.size + 2, 0, none⟩) 1 1, .slice (some ⟨w2.heap.size + 5, 0, none⟩) 2 2, .slice (some ⟨w2.heap.size + 6, 0, none⟩) 2 2] 26)).frozen? ⟨w2.heap.size + 6, 1, none⟩ = false := frozen_of hEB.o6
  have c3 : ((euW w2).alloc (.cells #[.slice (some ⟨w2.heap.size + 2, 0, none⟩) 1 1, .slice (some ⟨w2.heap.size + 5, 0, none⟩) 2 2, .slice (some ⟨w2.heap.size + 6, 0, none⟩) 2 2] 26)).cell? ⟨w2.heap.size + 5, 3, none⟩ = some (.slice (some ⟨w2.heap.size + 4, 0, none⟩) 1 1) := cell_of hEB.o5 rfl
  have HX : Hid (EuIn (((euW w2).alloc (.cells #[.slice (some ⟨w2.heap.size + 2, 0, none⟩) 1 1, .slice (some ⟨w2.heap.size + 5, 0, none⟩) 2 2, .slice (some ⟨w2.heap.size + 6, 0, none⟩) 2 2] 26)).setCell ⟨w2.heap.size + 6, 1, none⟩ (.string ⟨#[84]⟩)) w2.heap.size (-1) sTt) := Lib.hid (eu_set6 hEB _)
  have HB : Hid (Below w.heap.size w (((euW w2).alloc (.cells #[.slice (some ⟨w2.heap.size + 2, 0, none⟩) 1 1, .slice (some ⟨w2.heap.size + 5, 0, none⟩) 2 2, .slice (some ⟨w2.heap.size + 6, 0, none⟩) 2 2] 26)).setCell ⟨w2.heap.size + 6, 1, none⟩ (.string ⟨#[84]⟩))) := Lib.hid (((NX.out h_w2).alloc (NX.out h_w2).size _).setCell (by have := h_w2.size; simp; omega) _)
  have HL : Hid (Below w2.heap.size w2 (((euW w2).alloc (.cells #[.slice (some ⟨w2.heap.size + 2, 0, none⟩) 1 1, .slice (some ⟨w2.heap.size + 5, 0, none⟩) 2 2, .slice (some ⟨w2.heap.size + 6, 0, none⟩) 2 2] 26)).setCell ⟨w2.heap.size + 6, 1, none⟩ (.string ⟨#[84]⟩))) := Lib.hid (((euW_below w2).alloc (euW_below w2).size _).setCell (by simp) _)
  have HO : Hid ((((euW w2).alloc (.cells #[.slice (some ⟨w2.heap.size + 2, 0, none⟩) 1 1, .slice (some ⟨w2.heap.size + 5, 0, none⟩) 2 2, .slice (some ⟨w2.heap.size + 6, 0, none⟩) 2 2] 26)).setCell ⟨w2.heap.size + 6, 1, none⟩ (.string ⟨#[84]⟩)).heap[(euW w2).heap.size]? = some (.cells #[.slice (some ⟨w2.heap.size + 2, 0, none⟩) 1 1, .slice (some ⟨w2.heap.size + 5, 0, none⟩) 2 2, .slice (some ⟨w2.heap.size + 6, 0, none⟩) 2 2] 26)) :=
    Lib.hid ((Below.heap_setCell _ ⟨w2.heap.size + 6, 1, none⟩ _ _ (by rw [euW_size]; simp)).trans (World.alloc_heap_new _ _))
  have HZ : Hid ((((euW w2).alloc (.cells #[.slice (some ⟨w2.heap.size + 2, 0, none⟩) 1 1, .slice (some ⟨w2.heap.size + 5, 0, none⟩) 2 2, .slice (some ⟨w2.heap.size + 6, 0, none⟩) 2 2] 26)).setCell ⟨w2.heap.size + 6, 1, none⟩ (.string ⟨#[84]⟩)).heap.size = w2.heap.size + 8) := Lib.hid (by simp [euW_size])
  clear hEB
  go_wp2_with fail
  obtain ⟨w3, hw3⟩ : ∃ w3 : World, w3 = (((euW w2).alloc (.cells #[.slice (some ⟨w2.heap.size + 2, 0, none⟩) 1 1, .slice (some ⟨w2.heap.size + 5, 0, none⟩) 2 2, .slice (some ⟨w2.heap.size + 6, 0, none⟩) 2 2] 26)).setCell ⟨w2.heap.size + 6, 1, none⟩ (.string ⟨#[84]⟩)) := ⟨_, rfl⟩
  rw [← hw3] at HX HB HO HZ HL
  rw [← hw3]
  clear hw3 c1 c2 c3 h_w2
  have X3 := HX
  have B3 := HB
  have O3 := HO
  have Z3 := HZ
  have Lw3 := HL
  clear HX HB HO HZ HL
  have h_w3 := B3.out
  go_wp2_with fail
  refine (SP.out _).mono ?_
  rintro e w' ⟨rfl, rfl⟩
  have hEB : EuIn ((euW w3).alloc (.cells #[.slice (some ⟨w3.heap.size + 2, 0, none⟩) 1 1, .slice (some ⟨w3.heap.size + 5, 0, none⟩) 2 2, .slice (some ⟨w3.heap.size + 6, 0, none⟩) 2 2] 26)) w3.heap.size (-1) sOld := eu_box w3
  have c1 : ((euW w3).alloc (.cells #[.slice (some ⟨w3.heap.size + 2, 0, none⟩) 1 1, .slice (some ⟨w3.heap.size + 5, 0, none⟩) 2 2, .slice (some ⟨w3.heap.size + 6, 0, none⟩) 2 2] 26)).cell? ⟨w3.heap.size + 4, 1, none⟩ = some (.int .i64 (-1)) := cell_of hEB.o4 rfl
  have c2 : ((euW w3).alloc (.cells #[.slice (some ⟨w3.heap.size + 2, 0, none⟩) 1 1, .slice (some ⟨w3.heap.size + 5, 0, none⟩) 2 2, .slice (some ⟨w3.heap.size + 6, 0, none⟩) 2 2] 26)).frozen? ⟨w3.heap.size + 4, 1, none⟩ = false := frozen_of hEB.o4
  have c3 : ((euW w3).alloc (.cells #[.slice (some ⟨w3.heap.size + 2, 0, none⟩) 1 1, .slice (some ⟨w3.heap.size + 5, 0, none⟩) 2 2, .slice (some ⟨w3.heap.size + 6, 0, none⟩) 2 2] 26)).cell? ⟨w3.heap.size + 5, 3, none⟩ = some (.slice (some ⟨w3.heap.size + 4, 0, none⟩) 1 1) := cell_of hEB.o5 rfl
  have HX : Hid (EuIn (((euW w3).alloc (.cells #[.slice (some ⟨w3.heap.size + 2, 0, none⟩) 1 1, .slice (some ⟨w3.heap.size + 5, 0, none⟩) 2 2, .slice (some ⟨w3.heap.size + 6, 0, none⟩) 2 2] 26)).setCell ⟨w3.heap.size + 4, 1, none⟩ (.int .i64 0)) w3.heap.size 0 sOld) := Lib.hid (eu_set4 hEB _)
  have HB : Hid (Below w.heap.size w (((euW w3).alloc (.cells #[.slice (some ⟨w3.heap.size + 2, 0, none⟩) 1 1, .slice (some ⟨w3.heap.size + 5, 0, none⟩) 2 2, .slice (some ⟨w3.heap.size + 6, 0, none⟩) 2 2] 26)).setCell ⟨w3.heap.size + 4, 1, none⟩ (.int .i64 0))) := Lib.hid (((NX.out h_w3).alloc (NX.out h_w3).size _).setCell (by have := h_w3.size; simp; omega) _)
  have HL : Hid (Below w3.heap.size w3 (((euW w3).alloc (.cells #[.slice (some ⟨w3.heap.size + 2, 0, none⟩) 1 1, .slice (some ⟨w3.heap.size + 5, 0, none⟩) 2 2, .slice (some ⟨w3.heap.size + 6, 0, none⟩) 2 2] 26)).setCell ⟨w3.heap.size + 4, 1, none⟩ (.int .i64 0))) := Lib.hid (((euW_below w3).alloc (euW_below w3).size _).setCell (by simp) _)
  have HO : Hid ((((euW w3).alloc (.cells #[.slice (some ⟨w3.heap.size + 2, 0, none⟩) 1 1, .slice (some ⟨w3.heap.size + 5, 0, none⟩) 2 2, .slice (some ⟨w3.heap.size + 6, 0, none⟩) 2 2] 26)).setCell ⟨w3.heap.size + 4, 1, none⟩ (.int .i64 0)).heap[(euW w3).heap.size]? = some (.cells #[.slice (some ⟨w3.heap.size + 2, 0, none⟩) 1 1, .slice (some ⟨w3.heap.size + 5, 0, none⟩) 2 2, .slice (some ⟨w3.heap.size + 6, 0, none⟩) 2 2] 26)) :=
    Lib.hid ((Below.heap_setCell _ ⟨w3.heap.size + 4, 1, none⟩ _ _ (by rw [euW_size]; simp)).trans (World.alloc_heap_new _ _))
  have HZ : Hid ((((euW w3).alloc (.cells #[.slice (some ⟨w3.heap.size + 2, 0, none⟩) 1 1, .slice (some ⟨w3.heap.size + 5, 0, none⟩) 2 2, .slice (some ⟨w3.heap.size + 6, 0, none⟩) 2 2] 26)).setCell ⟨w3.heap.size + 4, 1, none⟩ (.int .i64 0)).heap.size = w3.heap.size + 8) := Lib.hid (by simp [euW_size])
  clear hEB
  go_wp2_with fail
  obtain ⟨w4, hw4⟩ : ∃ w4 : World, w4 = (((euW w3).alloc (.cells #[.slice (some ⟨w3.heap.size + 2, 0, none⟩) 1 1, .slice (some ⟨w3.heap.size + 5, 0, none⟩) 2 2, .slice (some ⟨w3.heap.size + 6, 0, none⟩) 2 2] 26)).setCell ⟨w3.heap.size + 4, 1, none⟩ (.int .i64 0)) := ⟨_, rfl⟩
  rw [← hw4] at HX HB HO HZ HL
  rw [← hw4]
  clear hw4 c1 c2 c3 h_w3
  have X4 := HX
  have B4 := HB
  have O4 := HO
  have Z4 := HZ
  have Lw4 := HL
  clear HX HB HO HZ HL
  have h_w4 := B4.out
  have Q1 : Hid (∀ W, Below w4.heap.size w4 W → EuIn W w2.heap.size (-1) sTt ∧ EuIn W w3.heap.size 0 sOld ∧ w2.heap.size + 7 ≤ W.heap.size ∧ w3.heap.size + 7 ≤ W.heap.size ∧ Below w.heap.size w W ∧ W.cell? ⟨(euW w2).heap.size, 0, none⟩ = some (.slice (some ⟨w2.heap.size + 2, 0, none⟩) 1 1) ∧ W.cell? ⟨(euW w2).heap.size, 1, none⟩ = some (.slice (some ⟨w2.heap.size + 5, 0, none⟩) 2 2) ∧ W.cell? ⟨(euW w2).heap.size, 2, none⟩ = some (.slice (some ⟨w2.heap.size + 6, 0, none⟩) 2 2) ∧ W.cell? ⟨(euW w3).heap.size, 0, none⟩ = some (.slice (some ⟨w3.heap.size + 2, 0, none⟩) 1 1) ∧ W.cell? ⟨(euW w3).heap.size, 1, none⟩ = some (.slice (some ⟨w3.heap.size + 5, 0, none⟩) 2 2) ∧ W.cell? ⟨(euW w3).heap.size, 2, none⟩ = some (.slice (some ⟨w3.heap.size + 6, 0, none⟩) 2 2)) := Lib.hid (fun W hb => by
    have z3 := Z3.out
    have z4 := Z4.out
    have zz := hb.size
    have hl := Lw4.out.trans (hb.mono Lw4.out.size)
    have o3 := (hl.block _ (by rw [euW_size, z3]; omega)).trans O3.out
    have o4 := (hb.block _ (by rw [euW_size, z4]; omega)).trans O4.out
    exact ⟨X3.out.below hl (by omega), X4.out.below hb (by omega), by omega, by omega, B4.out.trans (hb.mono B4.out.size), cell_of o3 rfl, cell_of o3 rfl, cell_of o3 rfl, cell_of o4 rfl, cell_of o4 rfl, cell_of o4 rfl⟩)
  have K2' : Hid (∀ W, Below w4.heap.size w4 W → Calls Try.prog 9 #[.agg #[.slice (some ⟨w2.heap.size + 2, 0, none⟩) 1 1, .slice (some ⟨w2.heap.size + 5, 0, none⟩) 2 2, .slice (some ⟨w2.heap.size + 6, 0, none⟩) 2 2]] W fun e' w' => e' = .returned (.int .i64 7) ∧ Below w4.heap.size w4 w') := Lib.hid (fun W hb =>
    (K2.out W w2.heap.size (Q1.out W hb).1 (Q1.out W hb).2.2.1 (MX.out (Q1.out W hb).2.2.2.2.1)).mono fun _ _ h => ⟨h.1, hb.trans (h.2.mono hb.size)⟩)
  have K3' : Hid (∀ W, Below w4.heap.size w4 W → Calls Try.prog 9 #[.agg #[.slice (some ⟨w3.heap.size + 2, 0, none⟩) 1 1, .slice (some ⟨w3.heap.size + 5, 0, none⟩) 2 2, .slice (some ⟨w3.heap.size + 6, 0, none⟩) 2 2]] W fun e' w' => e' = .returned (.int .i64 3) ∧ Below w4.heap.size w4 w') := Lib.hid (fun W hb =>
    (K3.out W w3.heap.size (Q1.out W hb).2.1 (Q1.out W hb).2.2.2.1 (MX.out (Q1.out W hb).2.2.2.2.1)).mono fun _ _ h => ⟨h.1, hb.trans (h.2.mono hb.size)⟩)
  have K1' : Hid (∀ W, Below w4.heap.size w4 W → Calls Try.prog 9 #[.agg #[.slice (some ⟨W.heap.size + 2, 0, none⟩) 1 1, .slice (some ⟨W.heap.size + 5, 0, none⟩) 2 2, .slice (some ⟨W.heap.size + 6, 0, none⟩) 2 2]] (euW W) fun e' w' => e' = .returned (.int .i64 0) ∧ Below w4.heap.size w4 w') := Lib.hid (fun W hb =>
    (K1.out W (MX.out (NX.out (Q1.out W hb).2.2.2.2.1))).mono fun _ _ h => ⟨h.1, (euW_next hb).trans (h.2.mono (euW_next hb).size)⟩)
  have N1 := Lib.hid (fun W hs => (name_any sOld W hs : Calls Try.prog 11 #[.string sOld] W fun e w' => e = .returned (.bool (nameOk sOld)) ∧ Below W.heap.size W w'))
  have N2 := Lib.hid (fun W hs => (name_any ⟨#[69, 47]⟩ W hs))
  have N3 := Lib.hid (fun W hs => (name_any ⟨#[49, 97]⟩ W hs))
  rw [nm_ok] at N1
  rw [nm_no1] at N2
  rw [nm_no2] at N3
  have hl1 := old_le
  have hl2 : (2 : Nat) ≤ maxLen := by unfold maxLen; omega
  clear X3 X4 B3 B4 O3 O4 Z3 Z4 Lw3 Lw4 K1 K2 K3 T1 T2 NX MX h_w4
  refine (SP.out _).mono ?_
  rintro e w' ⟨rfl, rfl⟩
  go_wp2_with fail
  refine (K1'.out _ (Below.refl _ _)).mono ?_
  rintro e w5 ⟨rfl, hb5⟩
  obtain ⟨_, _, _, _, _, e0, e1, e2, g0, g1, g2⟩ := Q1.out _ hb5
  go_wp2_with fail
  refine (K2'.out _ hb5).mono ?_
  rintro e w6 ⟨rfl, hb6⟩
  clear e0 e1 e2 g0 g1 g2
  obtain ⟨_, _, _, _, _, e0, e1, e2, g0, g1, g2⟩ := Q1.out _ hb6
  go_wp2_with fail
  refine (K3'.out _ hb6).mono ?_
  rintro e w7 ⟨rfl, hb7⟩
  go_wp2_with fail
  refine (N1.out _ hl1).mono ?_
  rintro e w8 ⟨rfl, hb8⟩
  go_wp2_with fail
  refine (N2.out _ hl2).mono ?_
  rintro e w9 ⟨rfl, hb9⟩
  go_wp2_with fail
  refine (N3.out _ hl2).mono ?_
  rintro e w10 ⟨rfl, hb10⟩
  have hb11 := hb7.trans (hb8.mono hb7.size)
  have hb12 := hb11.trans (hb9.mono hb11.size)
  have hb13 := hb12.trans (hb10.mono hb12.size)
  obtain ⟨_, _, _, _, hbw, _⟩ := Q1.out _ hb13
  go_wp2
  go_ret
  exact ⟨rfl, hbw⟩
end Go.Proofs.Ytlngalmdidaahaa
end
/-! The walk of DataTells. -/
section
set_option linter.unusedVariables false
namespace Go.Proofs.Ytlngalmdidaahaa
open Go.RowKit Gno
/-- the data's box, and what lies below it, in each later world. -/
theorem box_next {d : Dt} {w W : World} (hD : DataAt w w.heap.size d) (hb : Below (w.heap.size + 1) (w.alloc (Dobj d)) W) :
    Below w.heap.size w W ∧ DataAt W W.heap.size d ∧ W.cell? ⟨w.heap.size, 0, none⟩ = some (.slice d.sA d.sn d.sc) ∧ W.cell? ⟨w.heap.size, 1, none⟩ = some (.slice d.zA d.zn d.zc) ∧ W.cell? ⟨w.heap.size, 2, none⟩ = some (.slice d.lA d.ln d.lc) := by
  have h1 : Below w.heap.size w W := ((Below.refl w.heap.size w).alloc (Nat.le_refl _) (Dobj d)).trans (hb.mono (by omega))
  exact ⟨h1, hD.next h1, (hb.cell (p := ⟨w.heap.size, 0, none⟩) (by simp)).trans (by rw [World.cell?_alloc_at _ _ _ _ rfl]; rfl), (hb.cell (p := ⟨w.heap.size, 1, none⟩) (by simp)).trans (by rw [World.cell?_alloc_at _ _ _ _ rfl]; rfl), (hb.cell (p := ⟨w.heap.size, 2, none⟩) (by simp)).trans (by rw [World.cell?_alloc_at _ _ _ _ rfl]; rfl)⟩
set_option maxRecDepth 100000 in
set_option maxHeartbeats 4000000 in
theorem dataTells_walk (d : Dt) (nm : ByteArray) (w : World) (hs : nm.size ≤ maxLen) (hD : DataAt w w.heap.size d) (hM : MaxAt w w.heap.size) :
    Calls Try.prog 3 #[d.val, .string nm] w fun e w' => e = .returned (.bool true) ∧ Below w.heap.size w w' := by
  have HN := Lib.hid (fun W hb => box_next (d := d) (w := w) (W := W) hD hb)
  have Z1 := Lib.hid (fun W hb => ((zone_any d nm W (HN.out W hb).2.1 (hM.next (HN.out W hb).1)).mono fun _ _ h => (⟨h.1, hb.trans (h.2.mono (by have := hb.size; simpa using this))⟩ : _ ∧ Below (w.heap.size + 1) (w.alloc (Dobj d)) _)))
  have Z2 := Lib.hid (fun W hb => ((zoneOf_any d nm W (HN.out W hb).2.1).mono fun _ _ h => (⟨h.1, hb.trans (h.2.mono (by have := hb.size; simpa using this))⟩ : _ ∧ Below (w.heap.size + 1) (w.alloc (Dobj d)) _)))
  have C1 := Lib.hid (fun W hb => ((check_any d W (HN.out W hb).2.1 (hM.next (HN.out W hb).1)).mono fun _ _ h => (⟨h.1, hb.trans (h.2.mono (by have := hb.size; simpa using this))⟩ : _ ∧ Below (w.heap.size + 1) (w.alloc (Dobj d)) _)))
  have C2 := Lib.hid (fun W hb => ((checkData_any d W (HN.out W hb).2.1).mono fun _ _ h => (⟨h.1, hb.trans (h.2.mono (by have := hb.size; simpa using this))⟩ : _ ∧ Below (w.heap.size + 1) (w.alloc (Dobj d)) _)))
  have N1 := Lib.hid (fun W (hb : Below (w.heap.size + 1) (w.alloc (Dobj d)) W) => ((name_any nm W hs).mono fun _ _ h => (⟨h.1, hb.trans (h.2.mono (by have := hb.size; simpa using this))⟩ : _ ∧ Below (w.heap.size + 1) (w.alloc (Dobj d)) _)))
  have N2 := Lib.hid (fun W (hb : Below (w.heap.size + 1) (w.alloc (Dobj d)) W) => ((isName_any nm W hs).mono fun _ _ h => (⟨h.1, h.2 ▸ hb⟩ : _ ∧ Below (w.heap.size + 1) (w.alloc (Dobj d)) _)))
  have B1 := Lib.hid (fun W (hb : Below (w.heap.size + 1) (w.alloc (Dobj d)) W) => ((dataBegun_any W (hM.next (HN.out W hb).1)).mono fun _ _ h => (⟨h.1, hb.trans (h.2.mono (by have := hb.size; simpa using this))⟩ : _ ∧ Below (w.heap.size + 1) (w.alloc (Dobj d)) _)))
  clear hD hM
  unfold Dt.val at *
  obtain ⟨K, hK⟩ : ∃ K, K = zoneK d nm := ⟨_, rfl⟩
  obtain ⟨E, hE⟩ : ∃ E, E = zoneEr d nm := ⟨_, rfl⟩
  obtain ⟨D, hD⟩ : ∃ D, D = dataE d := ⟨_, rfl⟩
  obtain ⟨B, hB⟩ : ∃ B, B = nameOk nm := ⟨_, rfl⟩
  rw [← hK, ← hE] at Z1 Z2
  rw [← hD] at C1 C2
  rw [← hB] at N1 N2
  clear hK hE hD hB
  go_enter Try.func3, Try.ntmps3
  go_wp2_with fail
  refine (Z1.out _ (Below.refl _ _)).mono ?_
  rintro e w1 ⟨rfl, h1⟩
  obtain ⟨_, _, c0, c1, c2⟩ := HN.out _ h1
  go_wp2_with fail
  refine (Z2.out _ h1).mono ?_
  rintro e w2 ⟨rfl, h2⟩
  clear c0 c1 c2
  obtain ⟨_, _, c0, c1, c2⟩ := HN.out _ h2
  have hdr : ∀ W, Below (w.heap.size + 1) (w.alloc (.cells #[.slice d.sA d.sn d.sc, .slice d.zA d.zn d.zc, .slice d.lA d.ln d.lc] 26)) W → Below (w.heap.size + 1) (w.alloc (.cells #[.slice d.sA d.sn d.sc, .slice d.zA d.zn d.zc, .slice d.lA d.ln d.lc] 26)) W.drew := fun W h => h.drew
  go_wp2_with fail
  go_region_held3 (fun w' => Below (w.heap.size + 1) (w.alloc (.cells #[.slice d.sA d.sn d.sc, .slice d.zA d.zn d.zc, .slice d.lA d.ln d.lc] 26)) w' ∧ w'.cell? ⟨w.heap.size, 0, none⟩ = some (.slice d.sA d.sn d.sc) ∧ w'.cell? ⟨w.heap.size, 1, none⟩ = some (.slice d.zA d.zn d.zc) ∧ w'.cell? ⟨w.heap.size, 2, none⟩ = some (.slice d.lA d.ln d.lc))
    (refine ⟨?_, ?_, ?_, ?_⟩ <;> (first | assumption | exact Below.drew (by assumption) | go_keep))
    (first
    | (go_at_call 8; refine (B1.out _ (show _ ∧ (_ ∧ (_ ∧ _)) from (by assumption)).1).mono ?_; rintro e w9 ⟨rfl, h9⟩; obtain ⟨_, _, k0, k1, k2⟩ := HN.out _ h9)
    | (go_at_call 9; refine (C1.out _ (show _ ∧ (_ ∧ (_ ∧ _)) from (by assumption)).1).mono ?_; rintro e w9 ⟨rfl, h9⟩; obtain ⟨_, _, k0, k1, k2⟩ := HN.out _ h9)
    | (go_at_call 10; refine (C2.out _ (show _ ∧ (_ ∧ (_ ∧ _)) from (by assumption)).1).mono ?_; rintro e w9 ⟨rfl, h9⟩; obtain ⟨_, _, k0, k1, k2⟩ := HN.out _ h9)
    | (go_at_call 11; refine (N1.out _ (show _ ∧ (_ ∧ (_ ∧ _)) from (by assumption)).1).mono ?_; rintro e w9 ⟨rfl, h9⟩; obtain ⟨_, _, k0, k1, k2⟩ := HN.out _ h9)
    | (go_at_call 12; refine (N2.out _ (show _ ∧ (_ ∧ (_ ∧ _)) from (by assumption)).1).mono ?_; rintro e w9 ⟨rfl, h9⟩; obtain ⟨_, _, k0, k1, k2⟩ := HN.out _ h9))
  obtain ⟨hbw, _⟩ := HN.out _ (by assumption)
  go_wp2
  go_ret
  exact ⟨rfl, hbw⟩
end Go.Proofs.Ytlngalmdidaahaa
end
/-! Plain: right data: where names and links lead; one link more. -/
section
set_option linter.unusedVariables false
namespace Gno
open Go
/-- no two of a list are the same. -/
def Dist (l : List ByteArray) : Prop := ∀ (i j : Nat) (a b : ByteArray), i < j → l[i]? = some a → l[j]? = some b → same a b = false
theorem dist_of {l : List ByteArray} (h : dup l = false) : Dist l := fun i j a b hij ha hb => by
  cases hs : same a b
  · rfl
  · have : dup l = true := dup_yes (i := j) (m := j) (v := b) hb (Nat.le_refl _) (by
      unfold amongTo
      rw [List.any_eq_true]
      refine ⟨a, ?_, by rw [same_comm]; exact hs⟩
      exact List.mem_of_getElem? (i := i) (by rw [List.getElem?_take_of_lt hij]; exact ha))
    rw [h] at this; cases this
structure Right (d : Dt) : Prop where
  many : manyD d = false
  dist : Dist (zNames d ++ lNames d)
  noto : ∀ l ∈ d.ls, noTo d l.to = false
  lead : ∀ l ∈ d.ls, 0 ≤ leadN d l.name
theorem right_of {d : Dt} (h : dataE d = 0) : Right d := by
  have h0 : manyD d = false := by
    cases e : manyD d
    · rfl
    · unfold dataE at h; rw [if_pos e] at h; exact absurd h (by decide)
  have h1 : dE1 d = 0 := by unfold dataE at h; rwa [if_neg (by rw [h0]; simp)] at h
  have h2 : dE2 d = 0 := by
    unfold dE1 at h1; split at h1
    · exact absurd h1 (by decide)
    · exact h1
  have h3 : dE3 d = 0 := by
    unfold dE2 at h2; split at h2
    · exact absurd h2 (by decide)
    · exact h2
  have h4 : dE4 d = 0 := by
    unfold dE3 at h3; split at h3
    · exact absurd h3 (by decide)
    · exact h3
  have hd : (dup (sNames d) || dup (zNames d ++ lNames d)) = false := by
    cases e : (dup (sNames d) || dup (zNames d ++ lNames d))
    · rfl
    · unfold dE4 at h4; rw [if_pos e] at h4; exact absurd h4 (by decide)
  have h5 : dE5 d = 0 := by unfold dE4 at h4; rwa [if_neg (by rw [hd]; simp)] at h4
  have h6 : dE6 d = 0 := by
    unfold dE5 at h5; split at h5
    · rename_i q; exact absurd h5 q
    · exact h5
  have h7 : dE7 d = 0 := by
    unfold dE6 at h6; split at h6
    · exact absurd h6 (by decide)
    · exact h6
  have h8 : dE8 d = 0 := by
    unfold dE7 at h7; split at h7
    · exact absurd h7 (by decide)
    · exact h7
  have h9 : dE9 d = 0 := by
    unfold dE8 at h8; split at h8
    · exact absurd h8 (by decide)
    · exact h8
  have ht : anyI (fun _ => noTo d) (lTos d) = false := by
    cases e : anyI (fun _ => noTo d) (lTos d)
    · rfl
    · unfold dE9 at h9; rw [if_pos e] at h9; exact absurd h9 (by decide)
  have h10 : dE10 d = 0 := by unfold dE9 at h9; rwa [if_neg (by rw [ht]; simp)] at h9
  have hl : anyI (fun _ => noLead d) (lNames d) = false := by
    cases e : anyI (fun _ => noLead d) (lNames d)
    · rfl
    · unfold dE10 at h10; rw [if_pos e] at h10; exact absurd h10 (by decide)
  rw [anyI_any] at ht hl
  rw [Bool.or_eq_false_iff] at hd
  refine ⟨h0, dist_of hd.2, fun l hl' => ?_, fun l hl' => ?_⟩
  · have := List.any_eq_false.1 ht l.to (List.mem_map.2 ⟨l, hl', rfl⟩)
    simpa using this
  · have := List.any_eq_false.1 hl l.name (List.mem_map.2 ⟨l, hl', rfl⟩)
    unfold noLead at this
    simpa using this
theorem same_refl (a : ByteArray) : same a a = true := (same_iff a a).2 rfl
theorem Right.zz {d : Dt} (h : Right d) {i j : Nat} {a b : Zn} (hij : i < j) (ha : d.zs[i]? = some a) (hb : d.zs[j]? = some b) : same a.name b.name = false := by
  have hi := (List.getElem?_eq_some_iff.1 ha).1
  have hj := (List.getElem?_eq_some_iff.1 hb).1
  refine h.dist i j _ _ hij ?_ ?_
  · rw [List.getElem?_append_left (by simp [zNames]; exact hi)]; simp [zNames, ha]
  · rw [List.getElem?_append_left (by simp [zNames]; exact hj)]; simp [zNames, hb]
theorem Right.zl {d : Dt} (h : Right d) {i j : Nat} {a : Zn} {b : Lk} (ha : d.zs[i]? = some a) (hb : d.ls[j]? = some b) : same a.name b.name = false := by
  have hi := (List.getElem?_eq_some_iff.1 ha).1
  refine h.dist i (d.zs.length + j) _ _ (by omega) ?_ ?_
  · rw [List.getElem?_append_left (by simp [zNames]; exact hi)]; simp [zNames, ha]
  · rw [List.getElem?_append_right (by simp [zNames])]; simp [zNames, lNames, hb]
theorem Right.ll {d : Dt} (h : Right d) {i j : Nat} {a b : Lk} (hij : i < j) (ha : d.ls[i]? = some a) (hb : d.ls[j]? = some b) : same a.name b.name = false := by
  refine h.dist (d.zs.length + i) (d.zs.length + j) _ _ (by omega) ?_ ?_
  · rw [List.getElem?_append_right (by simp [zNames])]; simp [zNames, lNames, ha]
  · rw [List.getElem?_append_right (by simp [zNames])]; simp [zNames, lNames, hb]
theorem Right.zoneOwn {d : Dt} (h : Right d) {k : Nat} {z : Zn} (hz : d.zs[k]? = some z) : zoneN d z.name = k := by
  have := fst_at (p := isZone z.name) d.zs 0 k (fun j x hj hx => h.zz hj hx hz) ⟨z, hz, same_refl _⟩
  unfold zoneN; rw [this]; simp
theorem Right.leadZone {d : Dt} (h : Right d) {k : Nat} {z : Zn} (hz : d.zs[k]? = some z) : leadN d z.name = k := by
  unfold leadN
  rw [lead_zone (by rw [h.zoneOwn hz]; omega), h.zoneOwn hz]
theorem zone_neg {d : Dt} {s : ByteArray} (h : ∀ z ∈ d.zs, same z.name s = false) : zoneN d s < 0 := by
  have := fst_nn (isZone s) d.zs 0 (by omega)
  unfold zoneN
  rcases Int.lt_or_le (fst (isZone s) d.zs 0) 0 with q | q
  · exact q
  · obtain ⟨z, hz, hp⟩ := this.1 q
    unfold isZone at hp
    rw [h z hz] at hp; cases hp
theorem link_neg {d : Dt} {s : ByteArray} (h : ∀ z ∈ d.ls, same z.name s = false) : linkN d s < 0 := by
  have := fst_nn (isLink s) d.ls 0 (by omega)
  unfold linkN
  rcases Int.lt_or_le (fst (isLink s) d.ls 0) 0 with q | q
  · exact q
  · obtain ⟨z, hz, hp⟩ := this.1 q
    unfold isLink at hp
    rw [h z hz] at hp; cases hp
theorem Right.linkNoZone {d : Dt} (h : Right d) {i : Nat} {l : Lk} (hl : d.ls[i]? = some l) : zoneN d l.name < 0 :=
  zone_neg fun z hz => by
    obtain ⟨j, hj⟩ := List.getElem?_of_mem hz
    exact h.zl hj hl
theorem Right.linkOwn {d : Dt} (h : Right d) {i : Nat} {l : Lk} (hl : d.ls[i]? = some l) : linkN d l.name = i := by
  have := fst_at (p := isLink l.name) d.ls 0 i (fun j x hj hx => h.ll hj hx hl) ⟨l, hl, same_refl _⟩
  unfold linkN; rw [this]; simp
theorem leadT_more (d : Dt) : ∀ (f : Nat) (s : ByteArray), 0 ≤ leadT d f s → leadT d (f + 1) s = leadT d f s
  | 0, s, h => by simp [leadT] at h
  | f + 1, s, h => by
    by_cases hz : 0 ≤ zoneN d s
    · rw [lead_zone hz, lead_zone hz]
    · have hr := linkN_range d s
      by_cases hl : linkN d s < 0
      · rw [lead_none hz hl] at h; exact absurd h (by decide)
      · have hq := List.getElem?_eq_getElem (l := d.ls) (i := (linkN d s).toNat) (by omega)
        rw [lead_link hz hl hq] at h ⊢
        rw [lead_link hz hl hq]
        exact leadT_more d f _ h
theorem leadT_le (d : Dt) {f : Nat} {s : ByteArray} (h : 0 ≤ leadT d f s) : ∀ g, leadT d (f + g) s = leadT d f s
  | 0 => rfl
  | g + 1 => by
    have ih := leadT_le d h g
    rw [← Nat.add_assoc, leadT_more d (f + g) s (by rw [ih]; exact h), ih]
/-- a link leads where what it leads to leads. -/
theorem Right.leadLink {d : Dt} (h : Right d) {i : Nat} {l : Lk} (hl : d.ls[i]? = some l) : leadN d l.name = leadN d l.to ∧ 0 ≤ leadN d l.name ∧ leadN d l.name < d.zs.length := by
  have h0 := h.lead l (List.mem_of_getElem? hl)
  have e : leadN d l.name = leadT d d.ls.length l.to := by
    unfold leadN
    exact lead_link (by have := h.linkNoZone hl; omega) (by rw [h.linkOwn hl]; omega) (by rw [h.linkOwn hl]; simpa using hl)
  refine ⟨?_, h0, ?_⟩
  · rw [e] at h0 ⊢
    unfold leadN
    exact (leadT_more d _ _ h0).symm
  · exact (leadT_range d _ _).2
/-- one link more. -/
def moreD (d : Dt) (A : Option Addr) (c : Nat) (x : Lk) : Dt := { d with lA := A, ln := d.ln + 1, lc := c, ls := d.ls ++ [x] }
theorem more_zone (d : Dt) (A : Option Addr) (c : Nat) (x : Lk) (s : ByteArray) : zoneN (moreD d A c x) s = zoneN d s := rfl
theorem fst_app {α : Type} {p : α → Bool} : ∀ (l : List α) (x : α) (k : Int), 0 ≤ k → fst p (l ++ [x]) k = if 0 ≤ fst p l k then fst p l k else if p x = true then k + l.length else -1
  | [], x, k, hk => by
    simp only [List.nil_append, fst]
    by_cases h : p x = true
    · simp [h]
    · simp [h]
  | a :: t, x, k, hk => by
    show fst p (a :: (t ++ [x])) k = _
    by_cases h : p a = true
    · have e1 : ∀ l, fst p (a :: l) k = k := fun l => by show (if p a = true then k else fst p l (k + 1)) = k; rw [if_pos h]
      rw [e1, e1, if_pos hk]
    · have e1 : ∀ l, fst p (a :: l) k = fst p l (k + 1) := fun l => by show (if p a = true then k else fst p l (k + 1)) = _; rw [if_neg h]
      rw [e1, e1, fst_app t x (k + 1) (by omega)]
      have e : k + 1 + (t.length : Int) = k + ((a :: t).length : Int) := by simp; omega
      rw [e]
theorem more_link (d : Dt) (A : Option Addr) (c : Nat) (x : Lk) (s : ByteArray) : linkN (moreD d A c x) s = if 0 ≤ linkN d s then linkN d s else if same x.name s = true then (d.ls.length : Int) else -1 := by
  unfold linkN
  show fst (isLink s) (d.ls ++ [x]) 0 = _
  rw [fst_app d.ls x 0 (by omega)]
  unfold isLink
  simp
/-- what leads to a zone leads there with one link more. -/
theorem more_lead (d : Dt) (A : Option Addr) (c : Nat) (x : Lk) : ∀ (f : Nat) (s : ByteArray), 0 ≤ leadT d f s → leadT (moreD d A c x) f s = leadT d f s
  | 0, s, h => by simp [leadT] at h
  | f + 1, s, h => by
    by_cases hz : 0 ≤ zoneN d s
    · rw [lead_zone hz, lead_zone (d := moreD d A c x) (by rw [more_zone]; exact hz), more_zone]
    · have hr := linkN_range d s
      by_cases hl : linkN d s < 0
      · rw [lead_none hz hl] at h; exact absurd h (by decide)
      · have hm : linkN (moreD d A c x) s = linkN d s := by rw [more_link, if_pos (by omega)]
        have hq := List.getElem?_eq_getElem (l := d.ls) (i := (linkN d s).toNat) (by omega)
        rw [lead_link hz hl hq] at h ⊢
        rw [lead_link (d := moreD d A c x) (l := d.ls[(linkN d s).toNat]'(by omega)) (by rw [more_zone]; exact hz) (by rw [hm]; exact hl) (by rw [hm]; show (d.ls ++ [x])[(linkN d s).toNat]? = _; rw [List.getElem?_append_left (by omega)]; exact hq)]
        exact more_lead d A c x f _ h
theorem more_leadN {d : Dt} {A : Option Addr} {c : Nat} {x : Lk} {s : ByteArray} (h : 0 ≤ leadN d s) : leadN (moreD d A c x) s = leadN d s := by
  unfold leadN at h ⊢
  have e : (moreD d A c x).ls.length + 1 = d.ls.length + 1 + 1 := by show (d.ls ++ [x]).length + 1 = _; simp
  rw [e, ← more_lead d A c x _ _ h]
  rw [← more_lead d A c x _ _ h] at h
  exact leadT_more _ _ _ h
/-- a name that no zone, no link has. -/
theorem lead_absent {d : Dt} {s : ByteArray} (hz : zoneN d s < 0) (hl : linkN d s < 0) : leadN d s = -1 := lead_none (by omega) hl
/-- one link more changes nothing of the others. -/
theorem more_same {d : Dt} {A : Option Addr} {c : Nat} {x : Lk} (h : Right d) {s : ByteArray} (hs : same x.name s = false) : leadN (moreD d A c x) s = leadN d s := by
  by_cases hz : 0 ≤ zoneN d s
  · exact more_leadN (by unfold leadN; rw [lead_zone hz]; exact hz)
  · by_cases hl : 0 ≤ linkN d s
    · have hr := linkN_range d s
      obtain ⟨l, hlm, hp⟩ := (fst_nn (isLink s) d.ls 0 (by omega)).1 hl
      have : l.name = s := (same_iff _ _).1 hp
      refine more_leadN ?_
      rw [← this]
      exact h.lead l hlm
    · have a1 : zoneN d s < 0 := by omega
      have a2 : linkN d s < 0 := by omega
      have a3 : linkN (moreD d A c x) s < 0 := by rw [more_link, if_neg hl, if_neg (by rw [hs]; simp)]; omega
      rw [lead_absent a1 a2, lead_absent (d := moreD d A c x) a1 a3]
/-- and leads where it says. -/
theorem more_new {d : Dt} {A : Option Addr} {c : Nat} {x : Lk} (h : Right d) (h2 : Right (moreD d A c x)) : leadN (moreD d A c x) x.name = leadN d x.to ∧ 0 ≤ leadN d x.to := by
  have hx : (moreD d A c x).ls[d.ls.length]? = some x := by show (d.ls ++ [x])[d.ls.length]? = _; simp
  obtain ⟨h3, h4, h5⟩ := h2.leadLink hx
  have h6 : 0 ≤ leadN d x.to := by
    by_cases hz : 0 ≤ zoneN d x.to
    · unfold leadN; rw [lead_zone hz]; exact hz
    · by_cases hl : 0 ≤ linkN d x.to
      · obtain ⟨l, hlm, hp⟩ := (fst_nn (isLink x.to) d.ls 0 (by omega)).1 hl
        have : l.name = x.to := (same_iff _ _).1 hp
        rw [← this]
        exact h.lead l hlm
      · exfalso
        have hz2 : ¬ 0 ≤ zoneN (moreD d A c x) x.to := by rw [more_zone]; exact hz
        by_cases hs : same x.name x.to = true
        · -- it leads to itself
          have hnt : x.name = x.to := (same_iff _ _).1 hs
          have key : ∀ f, leadT (moreD d A c x) f x.to = -1 := by
            intro f
            induction f with
            | zero => rfl
            | succ f ih =>
              have hm : linkN (moreD d A c x) x.to = d.ls.length := by rw [more_link, if_neg hl, if_pos hs]
              rw [lead_link (l := x) hz2 (by rw [hm]; omega) (by rw [hm]; simpa using hx)]
              exact ih
          rw [h3] at h4
          unfold leadN at h4
          rw [key] at h4
          exact absurd h4 (by decide)
        · have : leadN (moreD d A c x) x.to = -1 := lead_absent (by omega) (by rw [more_link, if_neg hl, if_neg hs]; omega)
          rw [h3, this] at h4
          exact absurd h4 (by decide)
  exact ⟨by rw [h3, more_leadN h6], h6⟩
end Gno
end
/-! The walk of DataLinks. -/
section
set_option linter.unusedVariables false
namespace Go.Proofs.Ytlngalmdidaahaa
open Go.RowKit Gno
abbrev BoxB (d : Dt) (w W : World) : Prop := Below (w.heap.size + 1) (w.alloc (.cells #[.slice d.sA d.sn d.sc, .slice d.zA d.zn d.zc, .slice d.lA d.ln d.lc] 26)) W
set_option maxRecDepth 100000 in
set_option maxHeartbeats 4000000 in
theorem dataLinks_walk (d : Dt) (i : Int) (w : World) (hi : (Lit.int .i64 i).wf = true) (hD : DataAt w w.heap.size d) (hM : MaxAt w w.heap.size) :
    Calls Try.prog 4 #[d.val, .int .i64 i] w fun e w' => e = .returned (.bool true) ∧ Below w.heap.size w w' := by
  have HN := Lib.hid (fun W (hb : BoxB d w W) => box_next (d := d) (w := w) (W := W) hD hb)
  have ZA := Lib.hid (fun nm W (A : Prop) (hb : BoxB d w W ∧ A) => ((zone_any d nm W (HN.out W hb.1).2.1 (hM.next (HN.out W hb.1).1)).mono fun _ _ h => (⟨h.1, hb.1.trans (h.2.mono (by have := hb.1.size; simpa using this))⟩ : _ ∧ BoxB d w _)))
  have C1 := Lib.hid (fun W (hb : BoxB d w W) => ((check_any d W (HN.out W hb).2.1 (hM.next (HN.out W hb).1)).mono fun _ _ h => (⟨h.1, hb.trans (h.2.mono (by have := hb.size; simpa using this))⟩ : _ ∧ BoxB d w _)))
  have B1 := Lib.hid (fun W (hb : BoxB d w W) => ((dataBegun_any W (hM.next (HN.out W hb).1)).mono fun _ _ h => (⟨h.1, hb.trans (h.2.mono (by have := hb.size; simpa using this))⟩ : _ ∧ BoxB d w _)))
  have HD := Lib.hid hD
  have HM := Lib.hid hM
  clear hD hM
  unfold Dt.val at *
  by_cases h0 : dataE d = 0
  · have HR := Lib.hid (right_of h0)
    have HE := Lib.hid h0
    rw [h0] at C1
    clear h0
    have hzn : d.zn ≤ 9223372036854775807 := HD.out.2.1.2.1
    have hln : d.ln ≤ 4294967280 := HD.out.2.2.2
    have HZL := Lib.hid HD.out.2.1.1
    go_enter Try.func4, Try.ntmps4
    go_wp2_with fail
    refine (C1.out _ (Below.refl _ _)).mono ?_
    rintro e w1 ⟨rfl, h1⟩
    have H1 := Lib.hid h1
    clear h1
    go_wp2_with fail
    go_loopw [5] (fun b wr => ∃ k : Nat, k ≤ d.zn ∧ b = .int .i64 k ∧ Hid (BoxB d w wr)) (fun b _ => d.zn - (intOf b).toNat)
    case atStart => exact ⟨0, Nat.zero_le _, rfl, H1⟩
    case round =>
      obtain ⟨k, hk, rfl, hb⟩ := hrel
      obtain ⟨_, _, c0, c1, c2⟩ := HN.out _ hb.out
      by_cases hkt : k < d.zn
      · obtain ⟨b, o, q, hA, hbB, hq, hq1, hq2⟩ := zones_get HD.out.2.1 hkt
        have HC : Hid (∀ w1, BoxB d w w1 → w1.cell? ⟨w.heap.size, 0, none⟩ = some (.slice d.sA d.sn d.sc) ∧ w1.cell? ⟨w.heap.size, 1, none⟩ = some (.slice (some ⟨b, o, none⟩) d.zn d.zc) ∧ w1.cell? ⟨w.heap.size, 2, none⟩ = some (.slice d.lA d.ln d.lc) ∧ w1.cell? ⟨b, o + k * 2, none⟩ = some (.string q.name)) := Lib.hid (fun w1 h1 => by
          have h2 := HN.out w1 h1
          exact ⟨h2.2.2.1, hA ▸ h2.2.2.2.1, h2.2.2.2.2, (hq2 w1 h2.1).1.1⟩)
        have hz := zone_is (nm := q.name) HE.out (by rw [HR.out.leadZone hq]; omega)
        rw [HR.out.leadZone hq] at hz
        have ZB : Hid (∀ W (A : Prop), (BoxB d w W ∧ A) → Calls Try.prog 6 #[.agg #[.slice d.sA d.sn d.sc, .slice (some ⟨b, o, none⟩) d.zn d.zc, .slice d.lA d.ln d.lc], .string q.name] W fun e w2 => e = .returned (.tuple #[.int .i64 (k : Int), .int .i64 0]) ∧ BoxB d w w2) := Lib.hid (fun W A h => by
          have := ZA.out q.name W A h
          rw [hz.1, hz.2, hA] at this
          exact this)
        clear hq hq1 hq2 hA hz c0 c1 c2
        obtain ⟨c0, c1, c2, c3⟩ := HC.out _ hb.out
        have hbo := hb.out
        have hdr := hbo.drew
        go_wp2_with fail
        go_region_held3 (fun w' => BoxB d w w' ∧ w'.cell? ⟨w.heap.size, 0, none⟩ = some (.slice d.sA d.sn d.sc) ∧ w'.cell? ⟨w.heap.size, 1, none⟩ = some (.slice (some ⟨b, o, none⟩) d.zn d.zc) ∧ w'.cell? ⟨w.heap.size, 2, none⟩ = some (.slice d.lA d.ln d.lc) ∧ w'.cell? ⟨b, o + k * 2, none⟩ = some (.string q.name))
          (refine ⟨?_, ?_, ?_, ?_, ?_⟩ <;> (first | assumption | exact Below.drew (by assumption) | go_keep))
          (first
            | (go_at_call 6; refine (ZB.out _ _ (by assumption)).mono ?_; rintro e w4 ⟨rfl, hb5⟩; obtain ⟨k0, k1, k2, k3⟩ := HC.out _ hb5))
        have hbn := Lib.hid (show BoxB d w _ from (by assumption))
        go_wp2
        go_roundw
        case rel => exact ⟨k + 1, by omega, by go_num, hbn⟩
        case measure => simp [intOf]; omega
      · by_cases hl : d.ln = 0
        · have g1 : ((d.ln : Int) == 0) = true := by simp [hl]
          clear hl
          go_wp2_with fail
          refine (B1.out _ hb.out).mono ?_
          rintro e w2 ⟨rfl, h2⟩
          go_wp2
          go_ret
          exact ⟨rfl, (HN.out _ h2).1⟩
        · have g1 : ((d.ln : Int) == 0) = false := by simp [hl]
          have CH := Lib.hid (fun W => choose_any i d.ln W hi (by omega) (by omega))
          have bd := chooseN_bd i d.ln (by omega)
          obtain ⟨b, o, q, hA, hbB, hq, hq1, hq1', hq2⟩ := links_get HD.out.2.2.1 (i := (chooseN i d.ln).toNat) (by omega)
          obtain ⟨l1, l2, l3⟩ := HR.out.leadLink hq
          have hz := zone_is (nm := q.name) HE.out (by omega)
          have hz2 := zone_is (nm := q.to) HE.out (by omega)
          rw [← l1] at hz2
          have HC : Hid (∀ w1, BoxB d w w1 → w1.cell? ⟨w.heap.size, 0, none⟩ = some (.slice d.sA d.sn d.sc) ∧ w1.cell? ⟨w.heap.size, 1, none⟩ = some (.slice d.zA d.zn d.zc) ∧ w1.cell? ⟨w.heap.size, 2, none⟩ = some (.slice (some ⟨b, o, none⟩) d.ln d.lc) ∧ w1.cell? ⟨b, o + (chooseN i d.ln).toNat * 2, none⟩ = some (.string q.name) ∧ w1.cell? ⟨b, o + (chooseN i d.ln).toNat * 2 + 1, none⟩ = some (.string q.to)) := Lib.hid (fun w1 h1 => by
            have h2 := HN.out w1 h1
            exact ⟨h2.2.2.1, h2.2.2.2.1, hA ▸ h2.2.2.2.2, (hq2 w1 h2.1).1, (hq2 w1 h2.1).2⟩)
          have hbd : BoxB d w wr := hb.out
          have hsd : w.heap.size + 1 ≤ wr.heap.size := by have := hb.out.size; simpa using this
          have HX : Hid (∀ w1, Below (wr.heap.size + 1) (wr.alloc (.cells #[.string q.name, .string q.to] 38)).drew w1 → BoxB d w w1 ∧ w1.cell? ⟨wr.heap.size, 0, none⟩ = some (.string q.name) ∧ w1.cell? ⟨wr.heap.size, 1, none⟩ = some (.string q.to)) := Lib.hid (fun w1 h1 =>
            ⟨(hbd.alloc hsd _).drew.trans (h1.mono (by omega)), (h1.cell (p := ⟨wr.heap.size, 0, none⟩) (by simp)).trans (by show (wr.alloc (.cells #[.string q.name, .string q.to] 38)).cell? _ = _; rw [World.cell?_alloc_at _ _ _ _ rfl]; rfl), (h1.cell (p := ⟨wr.heap.size, 1, none⟩) (by simp)).trans (by show (wr.alloc (.cells #[.string q.name, .string q.to] 38)).cell? _ = _; rw [World.cell?_alloc_at _ _ _ _ rfl]; rfl)⟩)
          have ZB : Hid (∀ W, Below (wr.heap.size + 1) (wr.alloc (.cells #[.string q.name, .string q.to] 38)).drew W → Calls Try.prog 6 #[.agg #[.slice d.sA d.sn d.sc, .slice d.zA d.zn d.zc, .slice (some ⟨b, o, none⟩) d.ln d.lc], .string q.name] W fun e w2 => e = .returned (.tuple #[.int .i64 (leadN d q.name), .int .i64 0]) ∧ Below (wr.heap.size + 1) (wr.alloc (.cells #[.string q.name, .string q.to] 38)).drew w2) := Lib.hid (fun W hx => by
            have h1 := (HX.out W hx).1
            have := zone_any d q.name W (HN.out W h1).2.1 (HM.out.next (HN.out W h1).1)
            unfold Dt.val at this
            rw [hz.1, hz.2, hA] at this
            exact this.mono fun _ _ h => ⟨h.1, hx.trans (h.2.mono (by have := hx.size; simpa using this))⟩)
          have ZC : Hid (∀ W, Below (wr.heap.size + 1) (wr.alloc (.cells #[.string q.name, .string q.to] 38)).drew W → Calls Try.prog 6 #[.agg #[.slice d.sA d.sn d.sc, .slice d.zA d.zn d.zc, .slice (some ⟨b, o, none⟩) d.ln d.lc], .string q.to] W fun e w2 => e = .returned (.tuple #[.int .i64 (leadN d q.name), .int .i64 0]) ∧ Below (wr.heap.size + 1) (wr.alloc (.cells #[.string q.name, .string q.to] 38)).drew w2) := Lib.hid (fun W hx => by
            have h1 := (HX.out W hx).1
            have := zone_any d q.to W (HN.out W h1).2.1 (HM.out.next (HN.out W h1).1)
            unfold Dt.val at this
            rw [hz2.1, hz2.2, hA] at this
            exact this.mono fun _ _ h => ⟨h.1, hx.trans (h.2.mono (by have := hx.size; simpa using this))⟩)
          obtain ⟨L, hL⟩ : ∃ L, L = leadN d q.name := ⟨_, rfl⟩
          rw [← hL] at ZB ZC l2 l3
          obtain ⟨m1, m2⟩ := bd
          have hlz : d.zs.length = d.zn := HZL.out
          rw [hlz] at l3
          clear hq hq1 hq1' hq2 hA hz hz2 c0 c1 c2 l1 hL hl hlz hbd hsd
          obtain ⟨c0, c1, c2, c3, c4⟩ := HC.out _ hb.out
          have hbo := hb.out
          have n0 := World.new_ne wr _ c0
          have n3 := World.new_ne wr _ c3
          have hdr : BoxB d w wr.drew := hbo.drew
          have hsz : w.heap.size + 1 ≤ wr.drew.heap.size := by have := hbo.size; simpa using this
          have hsz2 : w.heap.size + 1 ≤ wr.heap.size := hsz
          go_wp2_with fail
          go_region_held3 (fun w' => BoxB d w w' ∧ w'.cell? ⟨w.heap.size, 0, none⟩ = some (.slice d.sA d.sn d.sc) ∧ w'.cell? ⟨w.heap.size, 1, none⟩ = some (.slice d.zA d.zn d.zc) ∧ w'.cell? ⟨w.heap.size, 2, none⟩ = some (.slice (some ⟨b, o, none⟩) d.ln d.lc) ∧ w'.cell? ⟨b, o + (chooseN i d.ln).toNat * 2, none⟩ = some (.string q.name) ∧ w'.cell? ⟨b, o + (chooseN i d.ln).toNat * 2 + 1, none⟩ = some (.string q.to))
            (refine ⟨?_, ?_, ?_, ?_, ?_, ?_⟩ <;> (first | assumption | exact Below.drew (by assumption) | exact hdr.alloc hsz _ | exact (hdr.alloc hsz _).setCell hsz2 _ | exact ((hdr.alloc hsz _).setCell hsz2 _).setCell hsz2 _ | go_keep))
            (first
              | (go_at_call 13; refine (CH.out _).mono ?_; rintro e w4 ⟨rfl, rfl⟩))
          all_goals
            have hx0 := Below.refl (wr.heap.size + 1) (wr.alloc (.cells #[.string q.name, .string q.to] 38)).drew
            obtain ⟨h1, x0, x1⟩ := HX.out _ hx0
            clear c0 c1 c2 c3 c4
            obtain ⟨c0, c1, c2, c3, c4⟩ := HC.out _ h1
            go_wp2_with fail
            refine (ZB.out _ hx0).mono ?_
            rintro e w2 ⟨rfl, h2⟩
            clear c0 c1 c2 c3 c4 x0 x1 h1
            obtain ⟨h1, x0, x1⟩ := HX.out _ h2
            obtain ⟨c0, c1, c2, c3, c4⟩ := HC.out _ h1
            go_wp2_with fail
            refine (ZC.out _ h2).mono ?_
            rintro e w3 ⟨rfl, h3⟩
            clear c0 c1 c2 c3 c4 x0 x1 h1
            obtain ⟨h1, x0, x1⟩ := HX.out _ h3
            obtain ⟨c0, c1, c2, c3, c4⟩ := HC.out _ h1
            go_wp2_with fail
            refine (B1.out _ h1).mono ?_
            rintro e w4 ⟨rfl, h4⟩
            clear c0 c1 c2 c3 c4 x0 x1
            obtain ⟨hbw, _, c0, c1, c2⟩ := HN.out _ h4
            have g2 : decide ((0 : Int) ≤ L) = true := by simpa using l2
            have g3 : decide (L < (d.zn : Int)) = true := by simpa using l3
            go_wp2
            go_ret
            exact ⟨rfl, hbw⟩
  · have hb0 : (dataE d != 0) = true := by simpa using h0
    clear h0
    go_enter Try.func4, Try.ntmps4
    go_wp2_with fail
    refine (C1.out _ (Below.refl _ _)).mono ?_
    rintro e w1 ⟨rfl, h1⟩
    go_wp2_with fail
    refine (B1.out _ h1).mono ?_
    rintro e w2 ⟨rfl, h2⟩
    go_wp2
    go_ret
    exact ⟨rfl, (HN.out _ h2).1⟩
end Go.Proofs.Ytlngalmdidaahaa
end
