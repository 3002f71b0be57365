/- Parts of a proof, laid together. -/
import Derived.Deep.RegionHeld3
import Derived.BigRegion
import Derived.Test.YtlngalmdidaahaaMDataTellsRow29
import Derived.Test.YtlngalmdidaahaaMDataTellsRow10
set_option linter.unusedSimpArgs false
set_option linter.unusedVariables false
/-! What must be in any case of data. -/
section
set_option linter.unusedVariables false
namespace Go.Proofs.Ytlngalmdidaahaa
open Go.RowKit Gno
theorem eu_mk (W : World) : Calls Try.prog 16 #[] W fun e w' => e = .returned (.agg #[.slice (some ⟨W.heap.size + 2, 0, none⟩) 1 1, .slice (some ⟨W.heap.size + 5, 0, none⟩) 2 2, .slice (some ⟨W.heap.size + 6, 0, none⟩) 2 2]) ∧ w' = euW W := europe_any W
theorem eu_chk (W : World) (k : Nat) (s2 : Int) (t : ByteArray) (h : EuIn W k s2 t) (hB : k + 7 ≤ W.heap.size) (ht : t.size ≤ maxLen) (hM : MaxAt W W.heap.size) {e : Int} (he : dataE (euD k s2 t) = e) :
    Calls Try.prog 9 #[.agg #[.slice (some ⟨k + 2, 0, none⟩) 1 1, .slice (some ⟨k + 5, 0, none⟩) 2 2, .slice (some ⟨k + 6, 0, none⟩) 2 2]] W fun e' w' => e' = .returned (.int .i64 e) ∧ Below W.heap.size W w' := by
  have := check_any (euD k s2 t) W (eu_data h hB ht) hM
  rwa [he] at this
theorem eu_zone (W : World) (k : Nat) (s2 : Int) (t : ByteArray) (h : EuIn W k s2 t) (hB : k + 7 ≤ W.heap.size) (ht : t.size ≤ maxLen) (hM : MaxAt W W.heap.size) (nm : ByteArray) {z e : Int} (he : zoneK (euD k s2 t) nm = z ∧ zoneEr (euD k s2 t) nm = e) :
    Calls Try.prog 6 #[.agg #[.slice (some ⟨k + 2, 0, none⟩) 1 1, .slice (some ⟨k + 5, 0, none⟩) 2 2, .slice (some ⟨k + 6, 0, none⟩) 2 2], .string nm] W fun e' w' => e' = .returned (.tuple #[.int .i64 z, .int .i64 e]) ∧ Below W.heap.size W w' := by
  have := zone_any (euD k s2 t) nm W (eu_data h hB ht) hM
  rwa [he.1, he.2] at this
theorem euW_next {w0 w : World} (h : Below w0.heap.size w0 w) : Below w0.heap.size w0 (euW w) := h.trans ((euW_below w).mono h.size)
theorem old_le : sOld.size ≤ maxLen := (show (10 : Nat) ≤ maxLen by unfold maxLen; omega)
theorem tt_le : sTt.size ≤ maxLen := (show (1 : Nat) ≤ maxLen by unfold maxLen; omega)
theorem nm_ok : nameOk sOld = true := by kernel_rfl
theorem nm_no1 : nameOk ⟨#[69, 47]⟩ = false := by kernel_rfl
theorem nm_no2 : nameOk ⟨#[49, 97]⟩ = false := by kernel_rfl
/-- a box behind all that was, and a cell of one of the data's blocks written. -/
theorem eu_box (w2 : World) : EuIn ((euW w2).alloc (Dobj (euD w2.heap.size (-1) sOld))) w2.heap.size (-1) sOld :=
  (euW_in w2).below ((Below.refl _ _).alloc (Nat.le_refl _) _) (by rw [euW_size]; omega)
theorem cell_of {W : World} {b o : Nat} {cs : Array Value} {T : TypeId} {v : Value} (h : W.heap[b]? = some (.cells cs T)) (hv : cs[o]? = some v) : W.cell? ⟨b, o, none⟩ = some v := by simp [World.cell?, h, hv]
theorem frozen_of {W : World} {b o : Nat} {cs : Array Value} {T : TypeId} (h : W.heap[b]? = some (.cells cs T)) : W.frozen? ⟨b, o, none⟩ = false := by simp [World.frozen?, h]
set_option maxRecDepth 100000 in
set_option maxHeartbeats 4000000 in
theorem dataBegun_any (w : World) (hM : MaxAt w w.heap.size) :
    Calls Try.prog 8 #[] w fun e w' => e = .returned (.bool true) ∧ Below w.heap.size w w' := by
  have SP := Lib.hid eu_mk
  have NX : Hid (∀ {w1 : World}, Below w.heap.size w w1 → Below w.heap.size w (euW w1)) := Lib.hid (fun h => euW_next h)
  have MX : Hid (∀ {w1 : World}, Below w.heap.size w w1 → MaxAt w1 w1.heap.size) := Lib.hid (fun h => hM.next h)
  have T1 := Lib.hid (fun (W : World) h => eu_zone (euW W) W.heap.size (-1) sOld (euW_in W) (by rw [euW_size]; omega) old_le h sTt (eu_T _))
  have T2 := Lib.hid (fun (W : World) h => eu_zone (euW W) W.heap.size (-1) sOld (euW_in W) (by rw [euW_size]; omega) old_le h sXx1 (eu_X _))
  have K1 := Lib.hid (fun (W : World) h => eu_chk (euW W) W.heap.size (-1) sOld (euW_in W) (by rw [euW_size]; omega) old_le h (eu_ok _))
  have K2 := Lib.hid (fun (W : World) (k : Nat) h hB h2 => eu_chk W k (-1) sTt h hB tt_le h2 (eu_round _))
  have K3 := Lib.hid (fun (W : World) (k : Nat) h hB h2 => eu_chk W k 0 sOld h hB old_le h2 (eu_range _))
  clear hM
  go_enter Try.func8, Try.ntmps8
  go_wp2_with fail
  refine (SP.out _).mono ?_
  rintro e w' ⟨rfl, rfl⟩
  go_wp2_with fail
  refine (T1.out _ (MX.out (NX.out (Below.refl _ _)))).mono ?_
  rintro e w1 ⟨rfl, hb1⟩
  have h1 : Below w.heap.size w w1 := (NX.out (Below.refl _ _)).trans (hb1.mono (NX.out (Below.refl _ _)).size)
  clear hb1
  go_wp2_with fail
  refine (SP.out _).mono ?_
  rintro e w' ⟨rfl, rfl⟩
  go_wp2_with fail
  refine (T2.out _ (MX.out (NX.out h1))).mono ?_
  rintro e w2 ⟨rfl, hb2⟩
  have h2 : Below w.heap.size w w2 := (NX.out h1).trans (hb2.mono (NX.out h1).size)
  clear hb2
  have h_w2 := h2
  clear h2
  go_wp2_with fail
  refine (SP.out _).mono ?_
  rintro e w' ⟨rfl, rfl⟩
  have hEB : EuIn ((euW w2).alloc (.cells #[.slice (some ⟨w2.heap.size + 2, 0, none⟩) 1 1, .slice (some ⟨w2.heap.size + 5, 0, none⟩) 2 2, .slice (some ⟨w2.heap.size + 6, 0, none⟩) 2 2] 26)) w2.heap.size (-1) sOld := eu_box w2
  have c1 : ((euW w2).alloc (.cells #[.slice (some ⟨w2.heap.size + 2, 0, none⟩) 1 1, .slice (some ⟨w2.heap.size + 5, 0, none⟩) 2 2, .slice (some ⟨w2.heap.size + 6, 0, none⟩) 2 2] 26)).cell? ⟨w2.heap.size + 6, 1, none⟩ = some (.string sOld) := cell_of hEB.o6 rfl
  have c2 : ((euW w2).alloc (.cells #[.slice (some ⟨w2.heap.size + 2, 0, none⟩) 1 1, .slice (some ⟨w2.heap.size + 5, 0, none⟩) 2 2, .slice (some ⟨w2.heap.size + 6, 0, none⟩) 2 2] 26)).frozen? ⟨w2.heap.size + 6, 1, none⟩ = false := frozen_of hEB.o6
  have c3 : ((euW w2).alloc (.cells #[.slice (some ⟨w2.heap.size + 2, 0, none⟩) 1 1, .slice (some ⟨w2.heap.size + 5, 0, none⟩) 2 2, .slice (some ⟨w2.heap.size + 6, 0, none⟩) 2 2] 26)).cell? ⟨w2.heap.size + 5, 3, none⟩ = some (.slice (some ⟨w2.heap.size + 4, 0, none⟩) 1 1) := cell_of hEB.o5 rfl
  have HX : Hid (EuIn (((euW w2).alloc (.cells #[.slice (some ⟨w2.heap.size + 2, 0, none⟩) 1 1, .slice (some ⟨w2.heap.size + 5, 0, none⟩) 2 2, .slice (some ⟨w2.heap.size + 6, 0, none⟩) 2 2] 26)).setCell ⟨w2.heap.size + 6, 1, none⟩ (.string ⟨#[84]⟩)) w2.heap.size (-1) sTt) := Lib.hid (eu_set6 hEB _)
  have HB : Hid (Below w.heap.size w (((euW w2).alloc (.cells #[.slice (some ⟨w2.heap.size + 2, 0, none⟩) 1 1, .slice (some ⟨w2.heap.size + 5, 0, none⟩) 2 2, .slice (some ⟨w2.heap.size + 6, 0, none⟩) 2 2] 26)).setCell ⟨w2.heap.size + 6, 1, none⟩ (.string ⟨#[84]⟩))) := Lib.hid (((NX.out h_w2).alloc (NX.out h_w2).size _).setCell (by have := h_w2.size; simp; omega) _)
  have HL : Hid (Below w2.heap.size w2 (((euW w2).alloc (.cells #[.slice (some ⟨w2.heap.size + 2, 0, none⟩) 1 1, .slice (some ⟨w2.heap.size + 5, 0, none⟩) 2 2, .slice (some ⟨w2.heap.size + 6, 0, none⟩) 2 2] 26)).setCell ⟨w2.heap.size + 6, 1, none⟩ (.string ⟨#[84]⟩))) := Lib.hid (((euW_below w2).alloc (euW_below w2).size _).setCell (by simp) _)
  have HO : Hid ((((euW w2).alloc (.cells #[.slice (some ⟨w2.heap.size + 2, 0, none⟩) 1 1, .slice (some ⟨w2.heap.size + 5, 0, none⟩) 2 2, .slice (some ⟨w2.heap.size + 6, 0, none⟩) 2 2] 26)).setCell ⟨w2.heap.size + 6, 1, none⟩ (.string ⟨#[84]⟩)).heap[(euW w2).heap.size]? = some (.cells #[.slice (some ⟨w2.heap.size + 2, 0, none⟩) 1 1, .slice (some ⟨w2.heap.size + 5, 0, none⟩) 2 2, .slice (some ⟨w2.heap.size + 6, 0, none⟩) 2 2] 26)) :=
    Lib.hid ((Below.heap_setCell _ ⟨w2.heap.size + 6, 1, none⟩ _ _ (by rw [euW_size]; simp)).trans (World.alloc_heap_new _ _))
  have HZ : Hid ((((euW w2).alloc (.cells #[.slice (some ⟨w2.heap.size + 2, 0, none⟩) 1 1, .slice (some ⟨w2.heap.size + 5, 0, none⟩) 2 2, .slice (some ⟨w2.heap.size + 6, 0, none⟩) 2 2] 26)).setCell ⟨w2.heap.size + 6, 1, none⟩ (.string ⟨#[84]⟩)).heap.size = w2.heap.size + 8) := Lib.hid (by simp [euW_size])
  clear hEB
  go_wp2_with fail
  obtain ⟨w3, hw3⟩ : ∃ w3 : World, w3 = (((euW w2).alloc (.cells #[.slice (some ⟨w2.heap.size + 2, 0, none⟩) 1 1, .slice (some ⟨w2.heap.size + 5, 0, none⟩) 2 2, .slice (some ⟨w2.heap.size + 6, 0, none⟩) 2 2] 26)).setCell ⟨w2.heap.size + 6, 1, none⟩ (.string ⟨#[84]⟩)) := ⟨_, rfl⟩
  rw [← hw3] at HX HB HO HZ HL
  rw [← hw3]
  clear hw3 c1 c2 c3 h_w2
  have X3 := HX
  have B3 := HB
  have O3 := HO
  have Z3 := HZ
  have Lw3 := HL
  clear HX HB HO HZ HL
  have h_w3 := B3.out
  go_wp2_with fail
  refine (SP.out _).mono ?_
  rintro e w' ⟨rfl, rfl⟩
  have hEB : EuIn ((euW w3).alloc (.cells #[.slice (some ⟨w3.heap.size + 2, 0, none⟩) 1 1, .slice (some ⟨w3.heap.size + 5, 0, none⟩) 2 2, .slice (some ⟨w3.heap.size + 6, 0, none⟩) 2 2] 26)) w3.heap.size (-1) sOld := eu_box w3
  have c1 : ((euW w3).alloc (.cells #[.slice (some ⟨w3.heap.size + 2, 0, none⟩) 1 1, .slice (some ⟨w3.heap.size + 5, 0, none⟩) 2 2, .slice (some ⟨w3.heap.size + 6, 0, none⟩) 2 2] 26)).cell? ⟨w3.heap.size + 4, 1, none⟩ = some (.int .i64 (-1)) := cell_of hEB.o4 rfl
  have c2 : ((euW w3).alloc (.cells #[.slice (some ⟨w3.heap.size + 2, 0, none⟩) 1 1, .slice (some ⟨w3.heap.size + 5, 0, none⟩) 2 2, .slice (some ⟨w3.heap.size + 6, 0, none⟩) 2 2] 26)).frozen? ⟨w3.heap.size + 4, 1, none⟩ = false := frozen_of hEB.o4
  have c3 : ((euW w3).alloc (.cells #[.slice (some ⟨w3.heap.size + 2, 0, none⟩) 1 1, .slice (some ⟨w3.heap.size + 5, 0, none⟩) 2 2, .slice (some ⟨w3.heap.size + 6, 0, none⟩) 2 2] 26)).cell? ⟨w3.heap.size + 5, 3, none⟩ = some (.slice (some ⟨w3.heap.size + 4, 0, none⟩) 1 1) := cell_of hEB.o5 rfl
  have HX : Hid (EuIn (((euW w3).alloc (.cells #[.slice (some ⟨w3.heap.size + 2, 0, none⟩) 1 1, .slice (some ⟨w3.heap.size + 5, 0, none⟩) 2 2, .slice (some ⟨w3.heap.size + 6, 0, none⟩) 2 2] 26)).setCell ⟨w3.heap.size + 4, 1, none⟩ (.int .i64 0)) w3.heap.size 0 sOld) := Lib.hid (eu_set4 hEB _)
  have HB : Hid (Below w.heap.size w (((euW w3).alloc (.cells #[.slice (some ⟨w3.heap.size + 2, 0, none⟩) 1 1, .slice (some ⟨w3.heap.size + 5, 0, none⟩) 2 2, .slice (some ⟨w3.heap.size + 6, 0, none⟩) 2 2] 26)).setCell ⟨w3.heap.size + 4, 1, none⟩ (.int .i64 0))) := Lib.hid (((NX.out h_w3).alloc (NX.out h_w3).size _).setCell (by have := h_w3.size; simp; omega) _)
  have HL : Hid (Below w3.heap.size w3 (((euW w3).alloc (.cells #[.slice (some ⟨w3.heap.size + 2, 0, none⟩) 1 1, .slice (some ⟨w3.heap.size + 5, 0, none⟩) 2 2, .slice (some ⟨w3.heap.size + 6, 0, none⟩) 2 2] 26)).setCell ⟨w3.heap.size + 4, 1, none⟩ (.int .i64 0))) := Lib.hid (((euW_below w3).alloc (euW_below w3).size _).setCell (by simp) _)
  have HO : Hid ((((euW w3).alloc (.cells #[.slice (some ⟨w3.heap.size + 2, 0, none⟩) 1 1, .slice (some ⟨w3.heap.size + 5, 0, none⟩) 2 2, .slice (some ⟨w3.heap.size + 6, 0, none⟩) 2 2] 26)).setCell ⟨w3.heap.size + 4, 1, none⟩ (.int .i64 0)).heap[(euW w3).heap.size]? = some (.cells #[.slice (some ⟨w3.heap.size + 2, 0, none⟩) 1 1, .slice (some ⟨w3.heap.size + 5, 0, none⟩) 2 2, .slice (some ⟨w3.heap.size + 6, 0, none⟩) 2 2] 26)) :=
    Lib.hid ((Below.heap_setCell _ ⟨w3.heap.size + 4, 1, none⟩ _ _ (by rw [euW_size]; simp)).trans (World.alloc_heap_new _ _))
  have HZ : Hid ((((euW w3).alloc (.cells #[.slice (some ⟨w3.heap.size + 2, 0, none⟩) 1 1, .slice (some ⟨w3.heap.size + 5, 0, none⟩) 2 2, .slice (some ⟨w3.heap.size + 6, 0, none⟩) 2 2] 26)).setCell ⟨w3.heap.size + 4, 1, none⟩ (.int .i64 0)).heap.size = w3.heap.size + 8) := Lib.hid (by simp [euW_size])
  clear hEB
  go_wp2_with fail
  obtain ⟨w4, hw4⟩ : ∃ w4 : World, w4 = (((euW w3).alloc (.cells #[.slice (some ⟨w3.heap.size + 2, 0, none⟩) 1 1, .slice (some ⟨w3.heap.size + 5, 0, none⟩) 2 2, .slice (some ⟨w3.heap.size + 6, 0, none⟩) 2 2] 26)).setCell ⟨w3.heap.size + 4, 1, none⟩ (.int .i64 0)) := ⟨_, rfl⟩
  rw [← hw4] at HX HB HO HZ HL
  rw [← hw4]
  clear hw4 c1 c2 c3 h_w3
  have X4 := HX
  have B4 := HB
  have O4 := HO
  have Z4 := HZ
  have Lw4 := HL
  clear HX HB HO HZ HL
  have h_w4 := B4.out
  have Q1 : Hid (∀ W, Below w4.heap.size w4 W → EuIn W w2.heap.size (-1) sTt ∧ EuIn W w3.heap.size 0 sOld ∧ w2.heap.size + 7 ≤ W.heap.size ∧ w3.heap.size + 7 ≤ W.heap.size ∧ Below w.heap.size w W ∧ W.cell? ⟨(euW w2).heap.size, 0, none⟩ = some (.slice (some ⟨w2.heap.size + 2, 0, none⟩) 1 1) ∧ W.cell? ⟨(euW w2).heap.size, 1, none⟩ = some (.slice (some ⟨w2.heap.size + 5, 0, none⟩) 2 2) ∧ W.cell? ⟨(euW w2).heap.size, 2, none⟩ = some (.slice (some ⟨w2.heap.size + 6, 0, none⟩) 2 2) ∧ W.cell? ⟨(euW w3).heap.size, 0, none⟩ = some (.slice (some ⟨w3.heap.size + 2, 0, none⟩) 1 1) ∧ W.cell? ⟨(euW w3).heap.size, 1, none⟩ = some (.slice (some ⟨w3.heap.size + 5, 0, none⟩) 2 2) ∧ W.cell? ⟨(euW w3).heap.size, 2, none⟩ = some (.slice (some ⟨w3.heap.size + 6, 0, none⟩) 2 2)) := Lib.hid (fun W hb => by
    have z3 := Z3.out
    have z4 := Z4.out
    have zz := hb.size
    have hl := Lw4.out.trans (hb.mono Lw4.out.size)
    have o3 := (hl.block _ (by rw [euW_size, z3]; omega)).trans O3.out
    have o4 := (hb.block _ (by rw [euW_size, z4]; omega)).trans O4.out
    exact ⟨X3.out.below hl (by omega), X4.out.below hb (by omega), by omega, by omega, B4.out.trans (hb.mono B4.out.size), cell_of o3 rfl, cell_of o3 rfl, cell_of o3 rfl, cell_of o4 rfl, cell_of o4 rfl, cell_of o4 rfl⟩)
  have K2' : Hid (∀ W, Below w4.heap.size w4 W → Calls Try.prog 9 #[.agg #[.slice (some ⟨w2.heap.size + 2, 0, none⟩) 1 1, .slice (some ⟨w2.heap.size + 5, 0, none⟩) 2 2, .slice (some ⟨w2.heap.size + 6, 0, none⟩) 2 2]] W fun e' w' => e' = .returned (.int .i64 7) ∧ Below w4.heap.size w4 w') := Lib.hid (fun W hb =>
    (K2.out W w2.heap.size (Q1.out W hb).1 (Q1.out W hb).2.2.1 (MX.out (Q1.out W hb).2.2.2.2.1)).mono fun _ _ h => ⟨h.1, hb.trans (h.2.mono hb.size)⟩)
  have K3' : Hid (∀ W, Below w4.heap.size w4 W → Calls Try.prog 9 #[.agg #[.slice (some ⟨w3.heap.size + 2, 0, none⟩) 1 1, .slice (some ⟨w3.heap.size + 5, 0, none⟩) 2 2, .slice (some ⟨w3.heap.size + 6, 0, none⟩) 2 2]] W fun e' w' => e' = .returned (.int .i64 3) ∧ Below w4.heap.size w4 w') := Lib.hid (fun W hb =>
    (K3.out W w3.heap.size (Q1.out W hb).2.1 (Q1.out W hb).2.2.2.1 (MX.out (Q1.out W hb).2.2.2.2.1)).mono fun _ _ h => ⟨h.1, hb.trans (h.2.mono hb.size)⟩)
  have K1' : Hid (∀ W, Below w4.heap.size w4 W → Calls Try.prog 9 #[.agg #[.slice (some ⟨W.heap.size + 2, 0, none⟩) 1 1, .slice (some ⟨W.heap.size + 5, 0, none⟩) 2 2, .slice (some ⟨W.heap.size + 6, 0, none⟩) 2 2]] (euW W) fun e' w' => e' = .returned (.int .i64 0) ∧ Below w4.heap.size w4 w') := Lib.hid (fun W hb =>
    (K1.out W (MX.out (NX.out (Q1.out W hb).2.2.2.2.1))).mono fun _ _ h => ⟨h.1, (euW_next hb).trans (h.2.mono (euW_next hb).size)⟩)
  have N1 := Lib.hid (fun W hs => (name_any sOld W hs : Calls Try.prog 11 #[.string sOld] W fun e w' => e = .returned (.bool (nameOk sOld)) ∧ Below W.heap.size W w'))
  have N2 := Lib.hid (fun W hs => (name_any ⟨#[69, 47]⟩ W hs))
  have N3 := Lib.hid (fun W hs => (name_any ⟨#[49, 97]⟩ W hs))
  rw [nm_ok] at N1
  rw [nm_no1] at N2
  rw [nm_no2] at N3
  have hl1 := old_le
  have hl2 : (2 : Nat) ≤ maxLen := by unfold maxLen; omega
  clear X3 X4 B3 B4 O3 O4 Z3 Z4 Lw3 Lw4 K1 K2 K3 T1 T2 NX MX h_w4
  refine (SP.out _).mono ?_
  rintro e w' ⟨rfl, rfl⟩
  go_wp2_with fail
  refine (K1'.out _ (Below.refl _ _)).mono ?_
  rintro e w5 ⟨rfl, hb5⟩
  obtain ⟨_, _, _, _, _, e0, e1, e2, g0, g1, g2⟩ := Q1.out _ hb5
  go_wp2_with fail
  refine (K2'.out _ hb5).mono ?_
  rintro e w6 ⟨rfl, hb6⟩
  clear e0 e1 e2 g0 g1 g2
  obtain ⟨_, _, _, _, _, e0, e1, e2, g0, g1, g2⟩ := Q1.out _ hb6
  go_wp2_with fail
  refine (K3'.out _ hb6).mono ?_
  rintro e w7 ⟨rfl, hb7⟩
  go_wp2_with fail
  refine (N1.out _ hl1).mono ?_
  rintro e w8 ⟨rfl, hb8⟩
  go_wp2_with fail
  refine (N2.out _ hl2).mono ?_
  rintro e w9 ⟨rfl, hb9⟩
  go_wp2_with fail
  refine (N3.out _ hl2).mono ?_
  rintro e w10 ⟨rfl, hb10⟩
  have hb11 := hb7.trans (hb8.mono hb7.size)
  have hb12 := hb11.trans (hb9.mono hb11.size)
  have hb13 := hb12.trans (hb10.mono hb12.size)
  obtain ⟨_, _, _, _, hbw, _⟩ := Q1.out _ hb13
  go_wp2
  go_ret
  exact ⟨rfl, hbw⟩
end Go.Proofs.Ytlngalmdidaahaa
end
/-! The walk of DataTells. -/
section
set_option linter.unusedVariables false
namespace Go.Proofs.Ytlngalmdidaahaa
open Go.RowKit Gno
/-- the data's box, and what lies below it, in each later world. -/
theorem box_next {d : Dt} {w W : World} (hD : DataAt w w.heap.size d) (hb : Below (w.heap.size + 1) (w.alloc (Dobj d)) W) :
    Below w.heap.size w W ∧ DataAt W W.heap.size d ∧ W.cell? ⟨w.heap.size, 0, none⟩ = some (.slice d.sA d.sn d.sc) ∧ W.cell? ⟨w.heap.size, 1, none⟩ = some (.slice d.zA d.zn d.zc) ∧ W.cell? ⟨w.heap.size, 2, none⟩ = some (.slice d.lA d.ln d.lc) := by
  have h1 : Below w.heap.size w W := ((Below.refl w.heap.size w).alloc (Nat.le_refl _) (Dobj d)).trans (hb.mono (by omega))
  exact ⟨h1, hD.next h1, (hb.cell (p := ⟨w.heap.size, 0, none⟩) (by simp)).trans (by rw [World.cell?_alloc_at _ _ _ _ rfl]; rfl), (hb.cell (p := ⟨w.heap.size, 1, none⟩) (by simp)).trans (by rw [World.cell?_alloc_at _ _ _ _ rfl]; rfl), (hb.cell (p := ⟨w.heap.size, 2, none⟩) (by simp)).trans (by rw [World.cell?_alloc_at _ _ _ _ rfl]; rfl)⟩
set_option maxRecDepth 100000 in
set_option maxHeartbeats 4000000 in
theorem dataTells_walk (d : Dt) (nm : ByteArray) (w : World) (hs : nm.size ≤ maxLen) (hD : DataAt w w.heap.size d) (hM : MaxAt w w.heap.size) :
    Calls Try.prog 3 #[d.val, .string nm] w fun e w' => e = .returned (.bool true) ∧ Below w.heap.size w w' := by
  have HN := Lib.hid (fun W hb => box_next (d := d) (w := w) (W := W) hD hb)
  have Z1 := Lib.hid (fun W hb => ((zone_any d nm W (HN.out W hb).2.1 (hM.next (HN.out W hb).1)).mono fun _ _ h => (⟨h.1, hb.trans (h.2.mono (by have := hb.size; simpa using this))⟩ : _ ∧ Below (w.heap.size + 1) (w.alloc (Dobj d)) _)))
  have Z2 := Lib.hid (fun W hb => ((zoneOf_any d nm W (HN.out W hb).2.1).mono fun _ _ h => (⟨h.1, hb.trans (h.2.mono (by have := hb.size; simpa using this))⟩ : _ ∧ Below (w.heap.size + 1) (w.alloc (Dobj d)) _)))
  have C1 := Lib.hid (fun W hb => ((check_any d W (HN.out W hb).2.1 (hM.next (HN.out W hb).1)).mono fun _ _ h => (⟨h.1, hb.trans (h.2.mono (by have := hb.size; simpa using this))⟩ : _ ∧ Below (w.heap.size + 1) (w.alloc (Dobj d)) _)))
  have C2 := Lib.hid (fun W hb => ((checkData_any d W (HN.out W hb).2.1).mono fun _ _ h => (⟨h.1, hb.trans (h.2.mono (by have := hb.size; simpa using this))⟩ : _ ∧ Below (w.heap.size + 1) (w.alloc (Dobj d)) _)))
  have N1 := Lib.hid (fun W (hb : Below (w.heap.size + 1) (w.alloc (Dobj d)) W) => ((name_any nm W hs).mono fun _ _ h => (⟨h.1, hb.trans (h.2.mono (by have := hb.size; simpa using this))⟩ : _ ∧ Below (w.heap.size + 1) (w.alloc (Dobj d)) _)))
  have N2 := Lib.hid (fun W (hb : Below (w.heap.size + 1) (w.alloc (Dobj d)) W) => ((isName_any nm W hs).mono fun _ _ h => (⟨h.1, h.2 ▸ hb⟩ : _ ∧ Below (w.heap.size + 1) (w.alloc (Dobj d)) _)))
  have B1 := Lib.hid (fun W (hb : Below (w.heap.size + 1) (w.alloc (Dobj d)) W) => ((dataBegun_any W (hM.next (HN.out W hb).1)).mono fun _ _ h => (⟨h.1, hb.trans (h.2.mono (by have := hb.size; simpa using this))⟩ : _ ∧ Below (w.heap.size + 1) (w.alloc (Dobj d)) _)))
  clear hD hM
  unfold Dt.val at *
  obtain ⟨K, hK⟩ : ∃ K, K = zoneK d nm := ⟨_, rfl⟩
  obtain ⟨E, hE⟩ : ∃ E, E = zoneEr d nm := ⟨_, rfl⟩
  obtain ⟨D, hD⟩ : ∃ D, D = dataE d := ⟨_, rfl⟩
  obtain ⟨B, hB⟩ : ∃ B, B = nameOk nm := ⟨_, rfl⟩
  rw [← hK, ← hE] at Z1 Z2
  rw [← hD] at C1 C2
  rw [← hB] at N1 N2
  clear hK hE hD hB
  go_enter Try.func3, Try.ntmps3
  go_wp2_with fail
  refine (Z1.out _ (Below.refl _ _)).mono ?_
  rintro e w1 ⟨rfl, h1⟩
  obtain ⟨_, _, c0, c1, c2⟩ := HN.out _ h1
  go_wp2_with fail
  refine (Z2.out _ h1).mono ?_
  rintro e w2 ⟨rfl, h2⟩
  clear c0 c1 c2
  obtain ⟨_, _, c0, c1, c2⟩ := HN.out _ h2
  have hdr : ∀ W, Below (w.heap.size + 1) (w.alloc (.cells #[.slice d.sA d.sn d.sc, .slice d.zA d.zn d.zc, .slice d.lA d.ln d.lc] 26)) W → Below (w.heap.size + 1) (w.alloc (.cells #[.slice d.sA d.sn d.sc, .slice d.zA d.zn d.zc, .slice d.lA d.ln d.lc] 26)) W.drew := fun W h => h.drew
  go_wp2_with fail
  go_region_held3 (fun w' => Below (w.heap.size + 1) (w.alloc (.cells #[.slice d.sA d.sn d.sc, .slice d.zA d.zn d.zc, .slice d.lA d.ln d.lc] 26)) w' ∧ w'.cell? ⟨w.heap.size, 0, none⟩ = some (.slice d.sA d.sn d.sc) ∧ w'.cell? ⟨w.heap.size, 1, none⟩ = some (.slice d.zA d.zn d.zc) ∧ w'.cell? ⟨w.heap.size, 2, none⟩ = some (.slice d.lA d.ln d.lc))
    (refine ⟨?_, ?_, ?_, ?_⟩ <;> (first | assumption | exact Below.drew (by assumption) | go_keep))
    (first
    | (go_at_call 8; refine (B1.out _ (show _ ∧ (_ ∧ (_ ∧ _)) from (by assumption)).1).mono ?_; rintro e w9 ⟨rfl, h9⟩; obtain ⟨_, _, k0, k1, k2⟩ := HN.out _ h9)
    | (go_at_call 9; refine (C1.out _ (show _ ∧ (_ ∧ (_ ∧ _)) from (by assumption)).1).mono ?_; rintro e w9 ⟨rfl, h9⟩; obtain ⟨_, _, k0, k1, k2⟩ := HN.out _ h9)
    | (go_at_call 10; refine (C2.out _ (show _ ∧ (_ ∧ (_ ∧ _)) from (by assumption)).1).mono ?_; rintro e w9 ⟨rfl, h9⟩; obtain ⟨_, _, k0, k1, k2⟩ := HN.out _ h9)
    | (go_at_call 11; refine (N1.out _ (show _ ∧ (_ ∧ (_ ∧ _)) from (by assumption)).1).mono ?_; rintro e w9 ⟨rfl, h9⟩; obtain ⟨_, _, k0, k1, k2⟩ := HN.out _ h9)
    | (go_at_call 12; refine (N2.out _ (show _ ∧ (_ ∧ (_ ∧ _)) from (by assumption)).1).mono ?_; rintro e w9 ⟨rfl, h9⟩; obtain ⟨_, _, k0, k1, k2⟩ := HN.out _ h9))
  obtain ⟨hbw, _⟩ := HN.out _ (by assumption)
  go_wp2
  go_ret
  exact ⟨rfl, hbw⟩
end Go.Proofs.Ytlngalmdidaahaa
end
