/- What must be in any case of books. -/
import Derived.Test.YtlmphmfadikdpaaShelf
set_option linter.unusedVariables false
namespace Go.Proofs.Ytlmphmfadikdpaa
open Go.RowKit Gno
theorem shelf_txt (W : World) (k : Nat) (h : ShelfIn W k (-1)) (hB : k + 2 < W.heap.size) (loc key : ByteArray) {s : ByteArray} {b : Bool} {e : Int} (ht : textS (shelfB k (-1)) loc key = s ∧ textB (shelfB k (-1)) loc key = b ∧ textE (shelfB k (-1)) loc key = e) :
    Calls Try.prog 30 #[.slice (some ⟨k + 2, 0, none⟩) 2 2, .string loc, .string key] W fun e' w' => e' = .returned (.tuple #[.string s, .bool b, .int .i64 e]) ∧ Below W.heap.size W w' := by
  have := text_any (some ⟨k + 2, 0, none⟩) 2 2 (shelfB k (-1)) loc key W (shelf_at h hB)
  rw [ht.1, ht.2.1, ht.2.2] at this
  exact this
theorem shelf_chk (W : World) (k : Nat) (p : Int) (h : ShelfIn W k p) (hB : k + 2 < W.heap.size) {e : Int} (ht : booksE (shelfB k p) = e) :
    Calls Try.prog 33 #[.slice (some ⟨k + 2, 0, none⟩) 2 2] W fun e' w' => e' = .returned (.int .i64 e) ∧ Below W.heap.size W w' := by
  have := checkB_any (some ⟨k + 2, 0, none⟩) 2 2 (shelfB k p) W (shelf_at h hB)
  rw [ht] at this
  exact this
theorem shelfW_next {w0 w : World} (h : Below w0.heap.size w0 w) : Below w0.heap.size w0 (shelfW w) := h.trans ((shelfW_below w).mono h.size)

set_option maxRecDepth 100000 in
set_option maxHeartbeats 4000000 in
theorem booksBegun_any (w : World) :
    Calls Try.prog 32 #[] w fun e w' => e = .returned (.bool true) ∧ Below w.heap.size w w' := by
  have SP := Lib.hid shelf_any
  have ZS := Lib.hid shelfW_size
  have NX : Hid (∀ {w1 : World}, Below w.heap.size w w1 → Below w.heap.size w (shelfW w1)) := Lib.hid (fun h => shelfW_next h)
  have T1 := Lib.hid (fun (W : World) => shelf_txt (shelfW W) W.heap.size (shelfW_in W) (by rw [shelfW_size]; omega) _ _ (s := ⟨#[109, 115, 116]⟩) (shelf_t1 _))
  have T2 := Lib.hid (fun (W : World) => shelf_txt (shelfW W) W.heap.size (shelfW_in W) (by rw [shelfW_size]; omega) _ _ (s := ⟨#[77, 68, 84]⟩) (shelf_t2 _))
  have T3 := Lib.hid (fun (W : World) => shelf_txt (shelfW W) W.heap.size (shelfW_in W) (by rw [shelfW_size]; omega) _ _ (shelf_t3 _))
  have T4 := Lib.hid (fun (W : World) => shelf_txt (shelfW W) W.heap.size (shelfW_in W) (by rw [shelfW_size]; omega) _ _ (shelf_t4 _))
  have K1 := Lib.hid (fun (W : World) => shelf_chk (shelfW W) W.heap.size (-1) (shelfW_in W) (by rw [shelfW_size]; omega) (shelf_ok _))
  have K2 := Lib.hid (fun (W : World) (k : Nat) h hB => shelf_chk W k 0 h hB (shelf_bad _))
  have LT : ∀ {w1 : World}, Below (shelfW w).heap.size (shelfW w) w1 → Below w.heap.size w w1 := fun h => (shelfW_below w).trans (h.mono (by rw [shelfW_size]; omega))
  go_enter Try.func32, Try.ntmps32
  go_wp2_with fail
  refine (SP.out _).mono ?_
  rintro e w' ⟨rfl, rfl⟩
  go_wp2_with fail
  refine (T1.out _).mono ?_
  rintro e w1 ⟨rfl, hb1⟩
  have h1 : Below w.heap.size w w1 := (NX.out (Below.refl _ _)).trans (hb1.mono (NX.out (Below.refl _ _)).size)
  clear hb1 LT
  go_wp2_with fail
  refine (SP.out _).mono ?_
  rintro e w' ⟨rfl, rfl⟩
  go_wp2_with fail
  refine (T2.out _).mono ?_
  rintro e w2 ⟨rfl, hb2⟩
  have h2 : Below w.heap.size w w2 := (NX.out h1).trans (hb2.mono (NX.out h1).size)
  clear hb2 h1
  go_wp2_with fail
  refine (SP.out _).mono ?_
  rintro e w' ⟨rfl, rfl⟩
  go_wp2_with fail
  refine (T3.out _).mono ?_
  rintro e w3 ⟨rfl, hb3⟩
  have h3 : Below w.heap.size w w3 := (NX.out h2).trans (hb3.mono (NX.out h2).size)
  clear hb3 h2
  go_wp2_with fail
  refine (SP.out _).mono ?_
  rintro e w' ⟨rfl, rfl⟩
  go_wp2_with fail
  refine (T4.out _).mono ?_
  rintro e w4 ⟨rfl, hb4⟩
  have h4 : Below w.heap.size w w4 := (NX.out h3).trans (hb4.mono (NX.out h3).size)
  clear hb4 h3
  go_wp2_with fail
  refine (SP.out _).mono ?_
  rintro e w' ⟨rfl, rfl⟩
  have c1 : (shelfW w4).cell? ⟨w4.heap.size + 2, 1, none⟩ = some (.int .i64 (-1)) := (shelfW_in w4).2.2 1 _ rfl
  have c2 : (shelfW w4).frozen? ⟨w4.heap.size + 2, 1, none⟩ = false := by
    unfold shelfW
    exact World.frozen?_alloc_at _ _ _ _ (by simp)
  have HI := Lib.hid (shelf_set (shelfW_in w4))
  have HB5 : Below w.heap.size w ((shelfW w4).setCell ⟨w4.heap.size + 2, 1, none⟩ (.int .i64 0)) := (NX.out h4).setCell (by have := h4.size; simp; omega) _
  have HZ : Hid (((shelfW w4).setCell ⟨w4.heap.size + 2, 1, none⟩ (.int .i64 0)).heap.size = w4.heap.size + 3) := Lib.hid (by simp [shelfW_size])
  go_wp2_with fail
  obtain ⟨W5, hW5⟩ : ∃ W5 : World, W5 = (shelfW w4).setCell ⟨w4.heap.size + 2, 1, none⟩ (.int .i64 0) := ⟨_, rfl⟩
  rw [← hW5] at HI HB5 HZ
  rw [← hW5]
  clear hW5 c1 c2 h4
  refine (SP.out _).mono ?_
  rintro e w' ⟨rfl, rfl⟩
  go_wp2_with fail
  refine (K1.out _).mono ?_
  rintro e w6 ⟨rfl, hb6⟩
  have h65 : Below W5.heap.size W5 w6 := (shelfW_below W5).trans (hb6.mono (shelfW_below W5).size)
  have h6 : Below w.heap.size w w6 := HB5.trans (h65.mono HB5.size)
  have HI6 := HI.out.below h65 (by rw [HZ.out]; omega)
  have K2' := Lib.hid (K2.out w6 w4.heap.size HI6 (by have := h65.size; rw [HZ.out] at this; omega))
  clear hb6 HI HI6 HB5
  go_wp2_with fail
  refine K2'.out.mono ?_
  rintro e w7 ⟨rfl, hb7⟩
  have h7 : Below w.heap.size w w7 := h6.trans (hb7.mono h6.size)
  clear hb7
  go_wp2
  go_ret
  exact ⟨rfl, h7⟩
end Go.Proofs.Ytlmphmfadikdpaa
