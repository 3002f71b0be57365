/- An edge inserted in the midst: where there is room, and where there is none. -/
import Derived.Test.YtggepbkhhnhnkaaTrL
set_option linter.unusedVariables false
set_option linter.unusedSimpArgs false
namespace Gno
open Go Go.RowKit
theorem min_a {n i m : Nat} (hi : i < n) (hm : m = 1) : Nat.min (n + m - i) (n + m - (i + m)) = n - i := by
  simp only [Nat.min_def]; split <;> omega
theorem min_b {n i m : Nat} (hi : i < n) (hm : m = 1) : Nat.min m (n + m - i) = 1 := by
  simp only [Nat.min_def]; split <;> omega
theorem min_c {n i m : Nat} (hi : i < n) (hm : m = 1) : Nat.min (n - i) (n + m - (i + m)) = n - i := by
  simp only [Nat.min_def]; split <;> omega
/-- the row's cells behind both copies. -/
theorem cells_shift {cur : List Value} {l : List Eg} {x : Eg} {n i cap : Nat} (hi : i < n) (hl : l.length = n) (hc : n + 1 ≤ cap) (hs : cur.length = cap * 2) (ht : cur.take (n * 2) = eds l)
    {c1 c2 : List Value} (h1 : c1 = cur.take (i * 2 + 2) ++ eds (l.drop i) ++ cur.drop (i * 2 + 2 + (eds (l.drop i)).length)) (h2 : c2 = c1.take (i * 2) ++ edCells x ++ c1.drop (i * 2 + (edCells x).length)) :
    c2.length = cap * 2 ∧ c2.take ((n + 1) * 2) = eds (l.take i ++ x :: l.drop i) := by
  have hd : (eds (l.drop i)).length = (n - i) * 2 := by rw [eds_len, List.length_drop, hl]
  have hx : (edCells x).length = 2 := rfl
  have l1 : c1.length = cap * 2 := by rw [h1]; simp only [List.length_append, List.length_take, List.length_drop, hd, hs]; omega
  have l2 : c2.length = cap * 2 := by rw [h2]; simp only [List.length_append, List.length_take, List.length_drop, hx, l1]; omega
  refine ⟨l2, ?_⟩
  have e1 : c1.take (i * 2) = eds (l.take i) := by
    rw [h1, List.append_assoc, List.take_append_of_le_length (by rw [List.length_take, hs]; omega), List.take_take, Nat.min_eq_left (by omega)]
    have : cur.take (i * 2) = (cur.take (n * 2)).take (i * 2) := by rw [List.take_take, Nat.min_eq_left (by omega)]
    rw [this, ht, eds_take]
  have e2 : c1.drop (i * 2 + 2) = eds (l.drop i) ++ cur.drop (i * 2 + 2 + (n - i) * 2) := by
    rw [h1, hd, List.append_assoc, List.drop_append_of_le_length (by rw [List.length_take, hs]; omega)]
    rw [List.drop_eq_nil_of_le (by rw [List.length_take]; omega), List.nil_append]
  rw [h2, hx, e1, e2]
  have e3 : eds (l.take i) ++ edCells x ++ (eds (l.drop i) ++ cur.drop (i * 2 + 2 + (n - i) * 2)) = eds (l.take i ++ x :: l.drop i) ++ cur.drop (i * 2 + 2 + (n - i) * 2) := by
    rw [eds_app, eds_cons]; simp [List.append_assoc]
  rw [e3, List.take_append_of_le_length (by rw [eds_len]; simp [hl]; omega), List.take_of_length_le (by rw [eds_len]; simp [hl]; omega)]
end Gno
namespace Go.Proofs.Ytggepbkhhnhnkaa
open Go.RowKit Gno
set_option maxHeartbeats 8000000 in
set_option maxRecDepth 100000 in
theorem ins_room (B g cap n i m vc : Nat) (hm : m = 1) (l : List Eg) (x : Eg) (xb : Nat) (w : World) (cur : Array Value) (hgB : B ≤ g) (hg : w.heap[g]? = some (.cells cur 54 (0, 0))) (hcs : cur.size = cap * 2) (htk : cur.toList.take (n * 2) = eds l) (hl : l.length = n)
    (hi : i < n) (hroom : n + m ≤ cap) (hc63 : cap ≤ 9223372036854775807) (hx : w.heap[xb]? = some (.cells #[.int .u8 x.c, .int .i64 x.to] 54 (0, 0))) (hne : xb ≠ g) :
    Calls Try.prog 23 #[.slice (some ⟨g, 0, none⟩) n cap, .int .i64 i, .slice (some ⟨xb, 0, none⟩) m vc] w (InsR B (.slice (some ⟨g, 0, none⟩) n cap) n (l.take i ++ x :: l.drop i) w) := by
  have hnews : ∀ j u, (edCells x)[j]? = some u → w.cell? ((⟨xb, 0, none⟩ : Addr).add j) = some u := fun j u hj => by
    rw [addLit, Nat.zero_add]
    simp [World.cell?, hx]
    match j, hj with
    | 0, hj => simpa [edCells] using hj
    | 1, hj => simpa [edCells] using hj
  have hsz : cur.toList.length = cap * 2 := by rw [Array.length_toList]; exact hcs
  have hd : (eds (l.drop i)).length = (n - i) * 2 := by rw [eds_len, List.length_drop, hl]
  have hold : ∀ j u, (eds (l.drop i))[j]? = some u → w.cell? ⟨g, i * 2 + j, none⟩ = some u := fun j u hj => by
    have h1 : (eds l)[i * 2 + j]? = some u := by rw [← List.getElem?_drop, eds_drop]; exact hj
    rw [← htk, List.getElem?_take] at h1
    split at h1
    · simp only [World.cell?, hg]
      simpa using h1
    · cases h1
  obtain ⟨c1, hc1⟩ : ∃ c1 : List Value, c1 = cur.toList.take (i * 2 + 2) ++ eds (l.drop i) ++ cur.toList.drop (i * 2 + 2 + (eds (l.drop i)).length) := ⟨_, rfl⟩
  obtain ⟨c2, hc2⟩ : ∃ c2 : List Value, c2 = c1.take (i * 2) ++ edCells x ++ c1.drop (i * 2 + (edCells x).length) := ⟨_, rfl⟩
  have hfin := cells_shift hi hl (by omega) hsz htk hc1 hc2
  have l1 : c1.length = cap * 2 := by rw [hc1]; simp only [List.length_append, List.length_take, List.length_drop, hd, hsz]; omega
  have hcp1 : ∀ ty dc sc, (Builtin.copy_ #[47, 47] ty #[.slice (some ⟨g, (i + m) * 2, none⟩) (n + m - (i + m)) dc, .slice (some ⟨g, i * 2, none⟩) (n + m - i) sc]).run Try.prog w.drew = .ok (goInt ((n - i : Nat) : Int)) (w.drew.setRow g c1.toArray) := fun ty dc sc => by
    have h := run_copy_rowk (P := Try.prog) w.drew 47 47 ty 54 2 g ((i + m) * 2) (n + m - (i + m)) dc ⟨g, i * 2, none⟩ (n + m - i) sc cur 54 (eds (l.drop i)) Try.underlying47 sizeEdge hg
      (by rw [min_a hi hm]; exact hd) (fun j u hj => by rw [addLit]; exact hold j u hj) (by rw [hd, hcs, hm]; omega) eds_one
    rw [min_a hi hm] at h
    rw [h, hc1, hm, show (i + 1) * 2 = i * 2 + 2 by omega]
  obtain ⟨W1, hW1⟩ : ∃ W1, W1 = w.drew.setRow g c1.toArray := ⟨_, rfl⟩
  have hgl : g < w.heap.size := lt_of_block hg
  have hg1 : W1.heap[g]? = some (.cells c1.toArray 54 (0, 0)) := by rw [hW1]; exact setRow_heap w.drew g cur _ _ _ hg
  have hcp2 : ∀ ty dc, (Builtin.copy_ #[47, 47] ty #[.slice (some ⟨g, i * 2, none⟩) (n + m - i) dc, .slice (some ⟨xb, 0, none⟩) m vc]).run Try.prog W1 = .ok (goInt ((1 : Nat) : Int)) (W1.setRow g c2.toArray) := fun ty dc => by
    have h := run_copy_rowk (P := Try.prog) W1 47 47 ty 54 2 g (i * 2) (n + m - i) dc ⟨xb, 0, none⟩ m vc c1.toArray 54 (edCells x) Try.underlying47 sizeEdge hg1
      (by rw [min_b hi hm]; rfl) (fun j u hj => by rw [hW1, World.cell?_of_block (w := w) (setRow_other w.drew g _ _ (by rw [addLit]; exact hne))]; exact hnews j u hj) (by rw [List.size_toArray, l1]; show i * 2 + 2 ≤ _; omega) (fun u hu => eds_one (l := [x]) u (by simpa [eds] using hu))
    rw [min_b hi hm] at h
    rw [h, hc2, List.toList_toArray]
  have hov : ∀ lb cb, (callFunc 31 #[.slice (some ⟨xb, 0, none⟩) m vc, .slice (some ⟨g, (i + m) * 2, none⟩) lb cb]).run Try.prog w = .ok (.value (.bool false)) w := fun lb cb => by
    rw [run_callFunc_extern Try.func31 (by kernel_rfl) (by kernel_rfl) (by kernel_rfl) (e := Extern.SlicesOverlaps.overlaps #[47, 47] #[4]) (by kernel_rfl),
      Lib.run_overlaps_apart w 47 4 54 Try.underlying47 2 Try.sizeOf54 ⟨xb, 0, none⟩ ⟨g, (i + m) * 2, none⟩ m vc lb cb hne 54 54 2 (cap * 2) (by simp [World.shape?, hx]) (by simp [World.shape?, hg, hcs]) (by omega) (by simp [World.frozen?, hx]) (by simp [World.frozen?, hx])]
    rfl
  have HR : Hid (InsR B (.slice (some ⟨g, 0, none⟩) n cap) n (l.take i ++ x :: l.drop i) w (.returned (.slice (some ⟨g, 0, none⟩) (n + m) cap)) (W1.setRow g c2.toArray)) := Lib.hid (by
    have hb : (W1.setRow g c2.toArray).heap[g]? = some (.cells c2.toArray 54 (0, 0)) := setRow_heap W1 g _ _ _ _ hg1
    refine ⟨_, rfl, ⟨by rw [eds_len]; simp [hl]; omega, .inr ⟨g, cap, c2.toArray, by rw [hm], hgB, hb, by omega, by unfold maxLen; omega, by simpa using hfin.1, by simpa using hfin.2⟩⟩, ⟨by rw [hW1]; rfl, by rw [hW1]; rfl, by rw [hW1]; rfl, by rw [hW1]; simp [World.setRow], fun k hk hne => ?_⟩, .inl rfl⟩
    have hkg : k ≠ g := fun e => hne (by rw [e]; rfl)
    rw [setRow_other _ _ _ _ hkg, hW1, setRow_other _ _ _ _ hkg]
    rfl)
  have hz1 : ¬ ((m : Int) = 0) := by omega
  have hz2 : ¬ ((i : Int) = (n : Int)) := by omega
  have hw1 : IntKind.i64.wrap ((i : Int) + (m : Int)) = (i : Int) + (m : Int) := by rw [IntKind.wrap_i64]; omega
  have hb1 : (0 : Int) ≤ (i : Int) + (m : Int) := by omega
  have hin : i ≤ n := by omega
  have htn : ((i : Int) + (m : Int)).toNat = i + m := by omega
  have hb2 : ¬ (cap = i + m) := by omega
  have hb3 : (i : Int) ≤ (n : Int) + (m : Int) := by omega
  have hb4 : ¬ (cap = i) := by omega
  rw [← hW1] at hcp1
  clear hx hnews hsz hd hold hc1 hc2 hfin l1 hg1 hW1 hg hcs htk hl hm
  go_enter Try.func23, Try.ntmps23
  go_wp2_with (simp only [hov])
  go_region_law (refine step_copy_runE rfl _ _ 47 47 rfl _ _ (by simp [Act.eval, Act.put]) (by simp [Act.eval, Act.put]) (hcp1 _ _ _) ?_)
  go_wp2_with (at_builtin; refine wpList_copy_runE _ rfl _ _ 47 47 rfl _ _ rfl rfl (hcp2 _ _) ?_)
  go_ret
  exact HR.out
end Go.Proofs.Ytggepbkhhnhnkaa
