/- Parts of a proof, laid together. -/
import Derived.Test.YthhjgndaiimgjaaGreatDoorShelf
import Derived.Lib.IndexEntry
import Derived.Test.YthhjgndaiimgjaaGreatDoorMUSrcB9
set_option linter.unusedSimpArgs false
set_option linter.unusedVariables false
/-! data.format; the reference's mark and isFormat. -/
section
set_option linter.unusedVariables false
set_option linter.unusedSimpArgs false
namespace Gno
open Go
def pct : ByteArray := ⟨#[37, 115]⟩
/-- where the mark stands; -1: nowhere. -/
def markN (s : ByteArray) : Int := Lib.indexB s pct
def fmtIn (s : ByteArray) : Bool := if markN s < 0 then allLet s else allLet (s.extract 0 (markN s).toNat) && allLet (s.extract ((markN s).toNat + 2) s.size)
def fmtOk (s : ByteArray) : Bool := decide (1 ≤ s.size ∧ s.size ≤ 12) && fmtIn s
theorem fmtOk_size {s : ByteArray} (h : ¬ (1 ≤ s.size ∧ s.size ≤ 12)) : fmtOk s = false := by unfold fmtOk; simp [h]
theorem fmtOk_in {s : ByteArray} (h : 1 ≤ s.size ∧ s.size ≤ 12) : fmtOk s = fmtIn s := by unfold fmtOk; simp [h]
theorem mark_cases (s : ByteArray) : markN s = -1 ∨ ∃ i : Nat, markN s = i ∧ i + 2 ≤ s.size := by
  rcases Lib.indexB_cases s pct with h | ⟨i, h, hr⟩
  · exact .inl h
  · exact .inr ⟨i, h, hr⟩
theorem fmtIn_no {s : ByteArray} (h : markN s = -1) : fmtIn s = allLet s := by unfold fmtIn; rw [if_pos (by omega)]
theorem fmtIn_at {s : ByteArray} {i : Nat} (h : markN s = i) : fmtIn s = (allLet (s.extract 0 i) && allLet (s.extract (i + 2) s.size)) := by
  unfold fmtIn; rw [if_neg (by omega), h]; rfl
end Gno
namespace Go.Proofs.YthhjgndaiimgjaaGreatDoor
open Go.RowKit Gno
/-- the library's variable holds some number. -/
def MaxAt (w : World) (B : Nat) : Prop := 0 < B ∧ ∃ m : Int, w.cell? ⟨0, 0, none⟩ = some (.int .i64 m)
theorem MaxAt.below {w w' : World} {B B' : Nat} (h : MaxAt w B) (hb : Below B w w') (hB : B ≤ B') : MaxAt w' B' := ⟨by have := h.1; omega, h.2.imp fun m hm => (hb.cell (p := ⟨0, 0, none⟩) h.1).trans hm⟩
set_option maxHeartbeats 4000000 in
theorem format_of (s a b : ByteArray) (c : Bool) (w : World) (hs : s.size ≤ 4294967280) (C0 : Calls Tryz.prog 80 #[.string s, .string ⟨#[37, 115]⟩] w fun e w' => e = .returned (.tuple #[.string a, .string b, .bool c]) ∧ ∃ n, w' = w.drewN n) :
    Calls Tryz.prog 49 #[.string s] w fun e w' => e = .returned (.bool (decide (1 ≤ s.size ∧ s.size ≤ 12) && (allLet a && allLet b))) ∧ Below w.heap.size w w' := by
  have C := Lib.hid C0
  have HB : Hid (∀ n, Below w.heap.size w (w.drewN n)) := Lib.hid (fun n => below_drewN (Below.refl _ _) n)
  clear C0
  obtain ⟨R, hR⟩ : ∃ R, R = (decide (1 ≤ s.size ∧ s.size ≤ 12) && (allLet a && allLet b)) := ⟨_, rfl⟩
  rw [← hR]
  by_cases h1 : 1 ≤ s.size ∧ s.size ≤ 12
  · obtain ⟨h2, h3⟩ := h1
    have L1 := Lib.hid (fun w => letters_any a w)
    have L2 := Lib.hid (fun w => letters_any b w)
    have HX : Hid (R = (allLet a && allLet b)) := Lib.hid (by rw [hR]; simp [h2, h3])
    obtain ⟨la, ha⟩ : ∃ la, la = allLet a := ⟨_, rfl⟩
    obtain ⟨lb, hb⟩ : ∃ lb, lb = allLet b := ⟨_, rfl⟩
    rw [← ha] at L1
    rw [← hb] at L2
    rw [← ha, ← hb] at HX
    clear ha hb hR
    cases la
    · go_enter Tryz.func49, Tryz.ntmps49
      go_wp2_with (first
        | (go_at_call 80; (with_reducible refine C.out.mono ?_); rintro e w1 ⟨rfl, n, rfl⟩)
        | (go_at_call 73; (with_reducible refine (L1.out _).mono ?_); rintro e w2 ⟨rfl, hb2⟩))
      go_ret
      exact ⟨ret_bool HX.out.symm, (HB.out _).trans (hb2.mono (HB.out _).size)⟩
    · go_enter Tryz.func49, Tryz.ntmps49
      go_wp2_with fail
      refine C.out.mono ?_
      rintro e w1 ⟨rfl, n, rfl⟩
      go_wp2_with fail
      refine (L1.out _).mono ?_
      rintro e w2 ⟨rfl, hb2⟩
      go_wp2_with fail
      refine (L2.out _).mono ?_
      rintro e w3 ⟨rfl, hb3⟩
      go_wp2
      go_ret
      exact ⟨ret_bool HX.out.symm, ((HB.out _).trans (hb2.mono (HB.out _).size)).trans (hb3.mono (by have := (HB.out n).size; have := hb2.size; omega))⟩
  · have HX : Hid (R = false) := Lib.hid (by rw [hR]; simp [h1])
    clear hR
    by_cases h0 : 1 ≤ s.size
    · have h2 : 13 ≤ s.size := by omega
      clear h1
      go_enter Tryz.func49, Tryz.ntmps49
      go_wp2_with (go_at_call 80; (with_reducible refine C.out.mono ?_); rintro e w1 ⟨rfl, n, rfl⟩)
      go_ret
      exact ⟨ret_bool HX.out.symm, HB.out _⟩
    · have h2 : s.size ≤ 0 := by omega
      clear h1 h0
      go_enter Tryz.func49, Tryz.ntmps49
      go_wp2_with (go_at_call 80; (with_reducible refine C.out.mono ?_); rintro e w1 ⟨rfl, n, rfl⟩)
      go_ret
      exact ⟨ret_bool HX.out.symm, HB.out _⟩
theorem format_any (s : ByteArray) (w : World) (hs : s.size ≤ fmtMax) (hm : MaxAt w w.heap.size) :
    Calls Tryz.prog 49 #[.string s] w fun e w' => e = .returned (.bool (fmtOk s)) ∧ Below w.heap.size w w' := by
  obtain ⟨m, hm⟩ := hm.2
  have hsz : s.size ≤ 4294967280 := hs
  have C0 := Go.Proofs.Tryz.strings_Cut s pct m w (by omega) hm
  rcases mark_cases s with hk | ⟨i, hk, hr⟩
  · obtain ⟨e1, e2, e3⟩ := Lib.cutB_miss s pct hk
    rw [e1, e2, e3] at C0
    have := format_of s s ByteArray.empty false w hsz C0
    rw [show allLet ByteArray.empty = true from rfl, Bool.and_true, ← fmtIn_no hk] at this
    exact this
  · obtain ⟨e1, e2, e3⟩ := Lib.cutB_hit s pct i hk
    rw [e1, e2, e3] at C0
    have := format_of s (s.extract 0 i) (s.extract (i + pct.size) s.size) true w hsz C0
    rw [show i + pct.size = i + 2 from rfl, ← fmtIn_at hk] at this
    exact this
theorem occ_piece (s : ByteArray) (k : Nat) (h : k + 2 ≤ s.size) : ((s.extract k (k + 2)).toList == [37, 115]) = Lib.occAt s.data.toList pct.data.toList k := by
  have := Lib.piece_eq_occAt s pct k h
  rw [← this, beq_toListBytes, show k + pct.size = k + 2 from rfl, show pct.toList = [37, 115] from by rw [ByteArray.toList_eq]; rfl]
set_option maxHeartbeats 4000000 in
theorem mark_any (s : ByteArray) (w : World) (hs : s.size ≤ 4611686018427387904) :
    Calls Tryz.prog 61 #[.string s] w fun e w' => e = .returned (.int .i64 (markN s)) ∧ Below w.heap.size w w' := by
  go_enter Tryz.func61, Tryz.ntmps61
  go_wp2
  go_loopw [3] (fun b3 wr => ∃ k : Nat, k ≤ s.size ∧ b3 = .int .i64 k ∧ Hid (∀ j, j < k → Lib.occAt s.data.toList pct.data.toList j = false) ∧ Below w.heap.size w wr) (fun b3 _ => s.size - (intOf b3).toNat)
  case atStart => exact ⟨0, Nat.zero_le _, rfl, Lib.hid (fun j hj => by omega), Below.refl _ _⟩
  case round =>
    obtain ⟨k, hk, rfl, hno, hb⟩ := hrel
    by_cases hlt : k + 1 < s.size
    · have hp := occ_piece s k (by omega)
      cases ho : Lib.occAt s.data.toList pct.data.toList k
      · rw [ho] at hp
        have HX : Hid (∀ j, j < k + 1 → Lib.occAt s.data.toList pct.data.toList j = false) := Lib.hid (fun j hj => by
          by_cases e : j = k
          · rw [e]; exact ho
          · exact hno.out j (by omega))
        clear ho hno
        go_wp2
        go_roundw
        case rel => exact ⟨k + 1, by omega, by go_num, HX, hb⟩
        case measure => simp [intOf]; omega
      · rw [ho] at hp
        have HX : Hid (markN s = k) := Lib.hid (Lib.index_first (by simp; omega) ho hno.out)
        clear ho hno
        go_wp2
        go_ret
        exact ⟨ret_int HX.out.symm, hb⟩
    · have HX : Hid (markN s = -1) := Lib.hid (Lib.index_none (fun j hj => by
        by_cases e : j < k
        · exact hno.out j e
        · cases ho : Lib.occAt s.data.toList pct.data.toList j
          · rfl
          · rcases Lib.occAt_room ho with h | h
            · simp [pct] at h hj; omega
            · simp [pct] at h))
      clear hno
      go_wp2
      go_ret
      exact ⟨ret_int HX.out.symm, hb⟩
set_option maxHeartbeats 4000000 in
theorem isFormat_any (s : ByteArray) (w : World) (hs : s.size ≤ fmtMax) :
    Calls Tryz.prog 21 #[.string s] w fun e w' => e = .returned (.bool (fmtOk s)) ∧ Below w.heap.size w w' := by
  have hsz : s.size ≤ 4294967280 := hs
  by_cases h1 : 1 ≤ s.size ∧ s.size ≤ 12
  · have WI : Hid (∀ w, Calls Tryz.prog 16 #[.int .i64 s.size, .int .i64 1, .int .i64 12] w fun e w' => e = .returned (.bool true) ∧ w = w') := Lib.hid (fun w => by
      have := within_any s.size 1 12 w
      rw [(withinB_iff _ _ _).2 (by omega)] at this
      exact this)
    have HO := Lib.hid (fmtOk_in h1)
    have MK := Lib.hid (fun w => mark_any s w (by omega))
    obtain ⟨h2, h3⟩ := h1
    rcases mark_cases s with hk | ⟨i, hk, hr⟩
    · have LA := Lib.hid (fun w => lettersR_any s w (by unfold maxLen; omega))
      have HX := Lib.hid (HO.out.trans (fmtIn_no hk))
      rw [hk] at MK
      clear hk hs
      go_enter Tryz.func21, Tryz.ntmps21
      go_wp2_with (first
        | (go_at_call 16; (with_reducible refine (WI.out _).mono ?_); rintro e w1 ⟨rfl, rfl⟩)
        | (go_at_call 61; (with_reducible refine (MK.out _).mono ?_); rintro e w2 ⟨rfl, hb2⟩)
        | (go_at_call 55; (with_reducible refine (LA.out _).mono ?_); rintro e w3 ⟨rfl, rfl⟩))
      go_ret
      exact ⟨ret_bool HX.out.symm, hb2⟩
    · have LA := Lib.hid (fun w => lettersR_any (s.extract 0 i) w (by unfold maxLen; simp; omega))
      have LB := Lib.hid (fun w => lettersR_any (s.extract (i + 2) s.size) w (by unfold maxLen; simp; omega))
      have HX := Lib.hid (HO.out.trans (fmtIn_at hk))
      rw [hk] at MK
      obtain ⟨la, ha⟩ : ∃ la, la = allLet (s.extract 0 i) := ⟨_, rfl⟩
      obtain ⟨lb, hb⟩ : ∃ lb, lb = allLet (s.extract (i + 2) s.size) := ⟨_, rfl⟩
      rw [← ha] at LA
      rw [← hb] at LB
      rw [← ha, ← hb] at HX
      clear hk hs ha hb
      cases la
      · go_enter Tryz.func21, Tryz.ntmps21
        go_wp2_with (first
          | (go_at_call 16; (with_reducible refine (WI.out _).mono ?_); rintro e w1 ⟨rfl, rfl⟩)
          | (go_at_call 61; (with_reducible refine (MK.out _).mono ?_); rintro e w2 ⟨rfl, hb2⟩)
          | (go_at_call 55; (with_reducible refine (LA.out _).mono ?_); rintro e w3 ⟨rfl, rfl⟩))
        go_ret
        exact ⟨ret_bool HX.out.symm, hb2⟩
      · go_enter Tryz.func21, Tryz.ntmps21
        go_wp2_with fail
        refine (WI.out _).mono ?_
        rintro e w1 ⟨rfl, rfl⟩
        go_wp2_with fail
        refine (MK.out _).mono ?_
        rintro e w2 ⟨rfl, hb2⟩
        go_wp2_with fail
        refine (LA.out _).mono ?_
        rintro e w3 ⟨rfl, rfl⟩
        go_wp2_with fail
        refine (LB.out _).mono ?_
        rintro e w3 ⟨rfl, rfl⟩
        go_wp2
        go_ret
        exact ⟨ret_bool HX.out.symm, hb2⟩
  · have WI : Hid (∀ w, Calls Tryz.prog 16 #[.int .i64 s.size, .int .i64 1, .int .i64 12] w fun e w' => e = .returned (.bool false) ∧ w = w') := Lib.hid (fun w => by
      have := within_any s.size 1 12 w
      rw [(withinB_no _ _ _).2 (by omega)] at this
      exact this)
    have HX := Lib.hid (fmtOk_size h1)
    clear h1 hs
    go_enter Tryz.func21, Tryz.ntmps21
    go_wp2_with (go_at_call 16; (with_reducible refine (WI.out _).mono ?_); rintro e w1 ⟨rfl, rfl⟩)
    go_ret
    exact ⟨ret_bool HX.out.symm, Below.refl _ _⟩
end Go.Proofs.YthhjgndaiimgjaaGreatDoor
end
