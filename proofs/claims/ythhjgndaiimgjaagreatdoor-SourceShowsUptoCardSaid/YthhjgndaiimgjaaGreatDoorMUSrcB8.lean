/- Parts of a proof, laid together. -/
import Derived.Test.YthhjgndaiimgjaaGreatDoorMUSrcB2
import Derived.Test.YthhjgndaiimgjaaGreatDoorMUSrcB1
set_option linter.unusedSimpArgs false
set_option linter.unusedVariables false
/-! The reference's nums. -/
section
set_option linter.unusedVariables false
set_option linter.unusedSimpArgs false
set_option maxRecDepth 100000
namespace Gno
open Go Go.RowKit Go.Proofs.YthhjgndaiimgjaaGreatDoor
/-- numbers in memory. -/
def IntsAt : World → Nat → Option Addr → Nat → List Int → Prop := SlAt 1 (fun w B b o x => w.cell? ⟨b, o, none⟩ = some (.int .i64 x))
theorem keeps_int : Keeps (fun w B b o (x : Int) => w.cell? ⟨b, o, none⟩ = some (.int .i64 x)) := fun _ _ _ _ _ _ _ hb hB hbB h => (hb.cell (Nat.lt_of_lt_of_le hbB hB)).trans h
theorem ints_get {w : World} {B : Nat} {A : Option Addr} {n : Nat} {l : List Int} (h : IntsAt w B A n l) {i : Nat} (hi : i < n) :
    ∃ b o q, A = some ⟨b, o, none⟩ ∧ b < B ∧ l[i]? = some q ∧ ∀ W, Below B w W → W.cell? ⟨b, o + i, none⟩ = some (.int .i64 q) := by
  obtain ⟨b, o, q, h1, h2, h3, h4⟩ := SlAt.get keeps_int h hi
  exact ⟨b, o, q, h1, h2, h3, fun W hW => by have := h4 W hW; rwa [Nat.mul_one] at this⟩
theorem ints_laid (w : World) (l : List Int) (E : TypeId) (hn : l.length ≤ maxLen) : IntsAt (w.alloc (.cells (l.map (Value.int .i64)).toArray E)) (w.alloc (.cells (l.map (Value.int .i64)).toArray E)).heap.size (some ⟨w.heap.size, 0, none⟩) l.length l :=
  ⟨rfl, hn, fun _ => ⟨w.heap.size, 0, rfl, by simp, fun i x hx => by
    show (w.alloc (.cells (l.map (Value.int .i64)).toArray E)).cell? ⟨w.heap.size, 0 + i * 1, none⟩ = _
    rw [Nat.zero_add, Nat.mul_one, World.cell?_alloc_at _ _ _ _ rfl]
    simp [hx]⟩⟩
/-- numbers as words, a blank ahead of each. -/
def numsL (l : List Int) : Bt := l.flatMap fun n => 32 :: Lib.itoa n
theorem numsL_snoc (l : List Int) (n : Int) : numsL (l ++ [n]) = numsL l ++ 32 :: Lib.itoa n := by unfold numsL; simp
theorem itoa_size {n : Int} (h1 : -1000000000000000000 < n) (h2 : n < 1000000000000000000) : (B (Lib.itoa n)).size ≤ 21 := by
  rw [B_size]; exact Lib.itoa_length_le n (by omega) (by omega)
end Gno
namespace Go.Proofs.YthhjgndaiimgjaaGreatDoor
open Go.RowKit Gno
set_option maxHeartbeats 4000000 in
theorem nums_any (A : Option Addr) (n cap : Nat) (l : List Int) (w : World) (hL : IntsAt w w.heap.size A n l) (hn : n ≤ 100) (hr : ∀ x ∈ l, -1000000000000000000 < x ∧ x < 1000000000000000000) :
    Calls Tryz.prog 25 #[.slice A n cap] w fun e w' => e = .returned (.string (B (numsL l))) ∧ Below w.heap.size w w' := by
  have HL := Lib.hid hL
  have HN : Hid (l.length = n) := Lib.hid hL.1
  have D := Lib.hid (fun x (h : -1000000000000000000 < x ∧ x < 1000000000000000000) w => digitsR_any x h.1 h.2 w)
  have HRR := Lib.hid hr
  obtain ⟨R, hR⟩ : ∃ R, R = B (numsL l) := ⟨_, rfl⟩
  have HR := Lib.hid hR
  rw [← hR]
  clear hL hr hR
  go_enter Tryz.func25, Tryz.ntmps25
  go_wp2
  go_loopw [3, 4] (fun b3 b4 wr => ∃ (i : Nat) (T : ByteArray), i ≤ n ∧ b4 = .int .i64 i ∧ b3 = .string T ∧ T.size ≤ 22 * i ∧ Hid (T = B (numsL (l.take i))) ∧ Hid (Below w.heap.size w wr)) (fun _ b4 _ => n - (intOf b4).toNat)
  case atStart => exact ⟨0, ⟨#[]⟩, Nat.zero_le _, rfl, rfl, by simp [ByteArray.size], Lib.hid rfl, Lib.hid (Below.refl _ _)⟩
  case round =>
    obtain ⟨i, T, hi, rfl, rfl, hT, hE, hb⟩ := hrel
    by_cases hlt : i < n
    · obtain ⟨b, o, q, rfl, hbB, hq, hc⟩ := ints_get HL.out hlt
      have e0 := hc _ hb.out
      have hqr := HRR.out q (List.mem_of_getElem? hq)
      obtain ⟨a, ha⟩ : ∃ a, a = B (Lib.itoa q) := ⟨_, rfl⟩
      have hsz : a.size ≤ 21 := by rw [ha]; exact itoa_size hqr.1 hqr.2
      have D1 := Lib.hid (fun w => D.out q hqr w)
      rw [← ha] at D1
      have HX : Hid ((T ++ ⟨#[32]⟩) ++ a = B (numsL (l.take (i + 1)))) := Lib.hid (by
        have e1 : l.take (i + 1) = l.take i ++ [q] := by rw [List.take_add_one, hq]; rfl
        rw [e1, numsL_snoc, hE.out, ha]
        show (B _ ++ B [32]) ++ B _ = _
        rw [B_app, B_app]; simp)
      have h32 : (⟨#[32]⟩ : ByteArray).size = 1 := rfl
      clear ha hc hq
      go_wp2_with (go_at_call 62; (with_reducible refine (D1.out _).mono ?_); rintro e w1 ⟨rfl, hb1⟩)
      go_roundw
      case rel => exact ⟨i + 1, _, by omega, by go_num, rfl, by simp only [ByteArray.size_append, h32]; omega, HX, Lib.hid (hb.out.trans (hb1.mono hb.out.size))⟩
      case measure => simp [intOf] <;> omega
    · have HX : Hid (R = T) := Lib.hid (by rw [HR.out, hE.out, List.take_of_length_le (by rw [HN.out]; omega)])
      go_wp2
      go_ret
      exact ⟨retO_str HX.out.symm, hb.out⟩
end Go.Proofs.YthhjgndaiimgjaaGreatDoor
end
