/- The two books of the shelf, and what holds of them. -/
import Derived.Test.YtlmphmfadikdpaaText
import Derived.KernelRfl
set_option linter.unusedVariables false
namespace Gno
open Go
def sRoot : ByteArray := ⟨#[114, 111, 111, 116]⟩
def sXx : ByteArray := ⟨#[120, 120]⟩
def sYy : ByteArray := ⟨#[121, 121]⟩
def sAWest : ByteArray := ⟨#[65, 47, 87, 101, 115, 116]⟩
def sWest : ByteArray := ⟨#[87, 101, 115, 116]⟩
def sMidD : ByteArray := ⟨#[109, 105, 100, 47, 100]⟩
def sMidS : ByteArray := ⟨#[109, 105, 100, 47, 115]⟩
def sMDT : ByteArray := ⟨#[77, 68, 84]⟩
def sMST : ByteArray := ⟨#[77, 83, 84]⟩
def smst : ByteArray := ⟨#[109, 115, 116]⟩
def shelfP1 : List Pr := [⟨sAWest, sWest⟩, ⟨sMidD, sMDT⟩, ⟨sMidS, sMST⟩]
def shelfP2 : List Pr := [⟨sAWest, ⟨#[]⟩⟩, ⟨sMidS, smst⟩]
def shelfB (k : Nat) (p : Int) : List Bk := [⟨sRoot, p, some ⟨k, 0, none⟩, 3, 3, shelfP1⟩, ⟨sXx, 0, some ⟨k + 1, 0, none⟩, 2, 2, shelfP2⟩]
theorem shelf_ok (k : Nat) : booksE (shelfB k (-1)) = 0 := by kernel_rfl
theorem shelf_bad (k : Nat) : booksE (shelfB k 0) = 3 := by kernel_rfl
theorem shelf_t1 (k : Nat) : textS (shelfB k (-1)) sXx sMidS = smst ∧ textB (shelfB k (-1)) sXx sMidS = true ∧ textE (shelfB k (-1)) sXx sMidS = 0 := ⟨by kernel_rfl, by kernel_rfl, by kernel_rfl⟩
theorem shelf_t2 (k : Nat) : textS (shelfB k (-1)) sXx sMidD = sMDT ∧ textB (shelfB k (-1)) sXx sMidD = true ∧ textE (shelfB k (-1)) sXx sMidD = 0 := ⟨by kernel_rfl, by kernel_rfl, by kernel_rfl⟩
theorem shelf_t3 (k : Nat) : textS (shelfB k (-1)) sXx sAWest = ⟨#[]⟩ ∧ textB (shelfB k (-1)) sXx sAWest = false ∧ textE (shelfB k (-1)) sXx sAWest = 0 := ⟨by kernel_rfl, by kernel_rfl, by kernel_rfl⟩
theorem shelf_t4 (k : Nat) : textS (shelfB k (-1)) sYy sAWest = ⟨#[]⟩ ∧ textB (shelfB k (-1)) sYy sAWest = false ∧ textE (shelfB k (-1)) sYy sAWest = 4 := ⟨by kernel_rfl, by kernel_rfl, by kernel_rfl⟩
end Gno
namespace Go.Proofs.Ytlmphmfadikdpaa
open Go.RowKit Gno
def shelfW (w : World) : World := ((w.alloc (.cells #[.string sAWest, .string sWest, .string sMidD, .string sMDT, .string sMidS, .string sMST] 51)).alloc (.cells #[.string sAWest, .string ⟨#[]⟩, .string sMidS, .string smst] 51)).alloc
  (.cells #[.string sRoot, .int .i64 (-1), .slice (some ⟨w.heap.size, 0, none⟩) 3 3, .string sXx, .int .i64 0, .slice (some ⟨w.heap.size + 1, 0, none⟩) 2 2] 49)
theorem shelfW_size (w : World) : (shelfW w).heap.size = w.heap.size + 3 := by simp [shelfW]
theorem shelfW_below (w : World) : Below w.heap.size w (shelfW w) := (((Below.refl _ _).alloc (Nat.le_refl _) _).alloc (by simp) _).alloc (by simp; omega) _
theorem shelf_any (w : World) : Calls Try.prog 55 #[] w fun e w' => e = .returned (.slice (some ⟨w.heap.size + 2, 0, none⟩) 2 2) ∧ w' = shelfW w := by
  go_enter Try.func55, Try.ntmps55
  go_wp2
  go_ret
  exact ⟨rfl, rfl⟩
/-- these cells lie there. -/
def CellsAt (W : World) (b : Nat) (cs : List Value) : Prop := ∀ j u, cs[j]? = some u → W.cell? ⟨b, j, none⟩ = some u
theorem CellsAt.below {W W' : World} {B b : Nat} {cs : List Value} (h : CellsAt W b cs) (hb : Below B W W') (hB : b < B) : CellsAt W' b cs := fun j u hj => (hb.cell hB).trans (h j u hj)
def shelfC1 : List Value := [.string sAWest, .string sWest, .string sMidD, .string sMDT, .string sMidS, .string sMST]
def shelfC2 : List Value := [.string sAWest, .string ⟨#[]⟩, .string sMidS, .string smst]
def shelfC3 (k : Nat) (p : Int) : List Value := [.string sRoot, .int .i64 p, .slice (some ⟨k, 0, none⟩) 3 3, .string sXx, .int .i64 0, .slice (some ⟨k + 1, 0, none⟩) 2 2]
def ShelfIn (W : World) (k : Nat) (p : Int) : Prop := CellsAt W k shelfC1 ∧ CellsAt W (k + 1) shelfC2 ∧ CellsAt W (k + 2) (shelfC3 k p)
theorem ShelfIn.below {W W' : World} {B k : Nat} {p : Int} (h : ShelfIn W k p) (hb : Below B W W') (hB : k + 2 < B) : ShelfIn W' k p :=
  ⟨h.1.below hb (by omega), h.2.1.below hb (by omega), h.2.2.below hb hB⟩
theorem shelfW_in (w : World) : ShelfIn (shelfW w) w.heap.size (-1) := by
  have s1 : (w.alloc (.cells #[.string sAWest, .string sWest, .string sMidD, .string sMDT, .string sMidS, .string sMST] 51)).heap.size = w.heap.size + 1 := by simp
  unfold shelfW
  refine ⟨fun j u hj => ?_, fun j u hj => ?_, fun j u hj => ?_⟩
  · rw [World.cell?_alloc_past _ _ _ (by simp; omega), World.cell?_alloc_past _ _ _ (by simp), World.cell?_alloc_at _ _ _ _ rfl]
    simpa [shelfC1] using hj
  · rw [World.cell?_alloc_past _ _ _ (by simp), World.cell?_alloc_at _ _ _ _ (by simp)]
    simpa [shelfC2] using hj
  · rw [World.cell?_alloc_at _ _ _ _ (by simp)]
    simpa [shelfC3] using hj
theorem shelf_at {W : World} {B k : Nat} {p : Int} (h : ShelfIn W k p) (hB : k + 2 < B) : BooksAt W B (some ⟨k + 2, 0, none⟩) 2 (shelfB k p) := by
  obtain ⟨h1, h2, h3⟩ := h
  refine ⟨rfl, by unfold maxLen; omega, fun _ => ⟨k + 2, 0, rfl, hB, fun i q hq => ?_⟩⟩
  match i, hq with
  | 0, hq =>
    obtain rfl : (⟨sRoot, p, some ⟨k, 0, none⟩, 3, 3, shelfP1⟩ : Bk) = q := by simpa [shelfB] using hq
    refine ⟨⟨h3 0 _ rfl, h3 1 _ rfl, h3 2 _ rfl⟩, (show (4 : Nat) ≤ maxLen by unfold maxLen; omega), rfl, (show (3 : Nat) ≤ maxLen by unfold maxLen; omega), fun _ => ⟨k, 0, rfl, by omega, fun j r hr => ?_⟩⟩
    match j, hr with
    | 0, hr =>
      obtain rfl : (⟨sAWest, sWest⟩ : Pr) = r := by simpa [shelfP1] using hr
      exact ⟨⟨h1 0 _ rfl, h1 1 _ rfl⟩, by unfold maxLen; decide, by unfold maxLen; decide⟩
    | 1, hr =>
      obtain rfl : (⟨sMidD, sMDT⟩ : Pr) = r := by simpa [shelfP1] using hr
      exact ⟨⟨h1 2 _ rfl, h1 3 _ rfl⟩, by unfold maxLen; decide, by unfold maxLen; decide⟩
    | 2, hr =>
      obtain rfl : (⟨sMidS, sMST⟩ : Pr) = r := by simpa [shelfP1] using hr
      exact ⟨⟨h1 4 _ rfl, h1 5 _ rfl⟩, by unfold maxLen; decide, by unfold maxLen; decide⟩
    | j + 3, hr => simp [shelfP1] at hr
  | 1, hq =>
    obtain rfl : (⟨sXx, 0, some ⟨k + 1, 0, none⟩, 2, 2, shelfP2⟩ : Bk) = q := by simpa [shelfB] using hq
    refine ⟨⟨h3 3 _ rfl, h3 4 _ rfl, h3 5 _ rfl⟩, (show (2 : Nat) ≤ maxLen by unfold maxLen; omega), rfl, (show (2 : Nat) ≤ maxLen by unfold maxLen; omega), fun _ => ⟨k + 1, 0, rfl, by omega, fun j r hr => ?_⟩⟩
    match j, hr with
    | 0, hr =>
      obtain rfl : (⟨sAWest, ⟨#[]⟩⟩ : Pr) = r := by simpa [shelfP2] using hr
      exact ⟨⟨h2 0 _ rfl, h2 1 _ rfl⟩, by unfold maxLen; decide, by unfold maxLen; decide⟩
    | 1, hr =>
      obtain rfl : (⟨sMidS, smst⟩ : Pr) = r := by simpa [shelfP2] using hr
      exact ⟨⟨h2 2 _ rfl, h2 3 _ rfl⟩, by unfold maxLen; decide, by unfold maxLen; decide⟩
    | j + 2, hr => simp [shelfP2] at hr
  | i + 2, hq => simp [shelfB] at hq
/-- the first one's parent, written. -/
theorem shelf_set {W : World} {k : Nat} (h : ShelfIn W k (-1)) : ShelfIn (W.setCell ⟨k + 2, 1, none⟩ (.int .i64 0)) k 0 := by
  obtain ⟨h1, h2, h3⟩ := h
  have hne : ∀ b j, b ≠ k + 2 → (W.setCell ⟨k + 2, 1, none⟩ (.int .i64 0)).cell? ⟨b, j, none⟩ = W.cell? ⟨b, j, none⟩ := fun b j hb => World.cell?_of_block (Below.heap_setCell W ⟨k + 2, 1, none⟩ _ b hb)
  refine ⟨fun j u hj => by rw [hne _ _ (by omega)]; exact h1 j u hj, fun j u hj => by rw [hne _ _ (by omega)]; exact h2 j u hj, fun j u hj => ?_⟩
  by_cases hj1 : j = 1
  · subst hj1
    obtain rfl : Value.int .i64 0 = u := by simpa [shelfC3] using hj
    exact World.cell?_setCell_same _ _ _ (h3 1 _ rfl)
  · rw [World.cell?_setCell_other _ _ _ _ (by intro h; injection h with _ h2 _; omega)]
    refine h3 j u ?_
    match j, hj1, hj with
    | 0, _, hj => exact hj
    | j + 2, _, hj => exact hj
end Go.Proofs.Ytlmphmfadikdpaa
