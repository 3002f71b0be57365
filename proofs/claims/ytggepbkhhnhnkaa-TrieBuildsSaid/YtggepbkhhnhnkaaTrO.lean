/- An edge inserted in the midst where there is no room. -/
import Derived.Test.YtggepbkhhnhnkaaTrN
set_option linter.unusedVariables false
set_option linter.unusedSimpArgs false
namespace Gno
open Go Go.RowKit
theorem cells_grow {row : List Value} {l : List Eg} {x : Eg} {n i cap : Nat} (hi : i < n) (hl : l.length = n) (hc : n + 1 ≤ cap) (hs : row.length = cap * 2) (ht : row.take (i * 2) = eds (l.take i))
    {c1 c2 : List Value} (h1 : c1 = row.take (i * 2) ++ edCells x ++ row.drop (i * 2 + (edCells x).length)) (h2 : c2 = c1.take (i * 2 + 2) ++ eds (l.drop i) ++ c1.drop (i * 2 + 2 + (eds (l.drop i)).length)) :
    c2.length = cap * 2 ∧ c2.take ((n + 1) * 2) = eds (l.take i ++ x :: l.drop i) := by
  have hd : (eds (l.drop i)).length = (n - i) * 2 := by rw [eds_len, List.length_drop, hl]
  have hx : (edCells x).length = 2 := rfl
  have l1 : c1.length = cap * 2 := by rw [h1]; simp only [List.length_append, List.length_take, List.length_drop, hx, hs]; omega
  have l2 : c2.length = cap * 2 := by rw [h2]; simp only [List.length_append, List.length_take, List.length_drop, hd, l1]; omega
  refine ⟨l2, ?_⟩
  have e1 : c1.take (i * 2 + 2) = eds (l.take i) ++ edCells x := by
    rw [h1, List.take_append_of_le_length (by simp only [List.length_append, List.length_take, hx, hs]; omega), ht, List.take_of_length_le (by rw [List.length_append, eds_len, hx, List.length_take]; omega)]
  rw [h2, e1]
  have e3 : eds (l.take i) ++ edCells x ++ eds (l.drop i) = eds (l.take i ++ x :: l.drop i) := by
    rw [eds_app, eds_cons]; simp [List.append_assoc]
  rw [e3, List.take_append_of_le_length (by rw [eds_len]; simp [hl]; omega), List.take_of_length_le (by rw [eds_len]; simp [hl]; omega)]
end Gno
namespace Go.Proofs.Ytggepbkhhnhnkaa
open Go.RowKit Gno
set_option maxHeartbeats 8000000 in
set_option maxRecDepth 100000 in
theorem ins_grow (B g cap n i m vc : Nat) (hm : m = 1) (l : List Eg) (x : Eg) (xb : Nat) (w : World) (cur : Array Value) (hB : B ≤ w.heap.size) (hg : w.heap[g]? = some (.cells cur 54 (0, 0))) (hcs : cur.size = cap * 2) (htk : cur.toList.take (n * 2) = eds l) (hl : l.length = n)
    (hi : i < n) (hnc : n ≤ cap) (hroom : cap < n + m) (hn : n ≤ 1000) (hx : w.heap[xb]? = some (.cells #[.int .u8 x.c, .int .i64 x.to] 54 (0, 0))) (hne : xb ≠ g) :
    Calls Try.prog 23 #[.slice (some ⟨g, 0, none⟩) n cap, .int .i64 i, .slice (some ⟨xb, 0, none⟩) m vc] w (InsR B (.slice (some ⟨g, 0, none⟩) n cap) n (l.take i ++ x :: l.drop i) w) := by
  have hgl : g < w.heap.size := lt_of_block hg
  have hxl : xb < w.heap.size := lt_of_block hx
  have hd : (eds (l.drop i)).length = (n - i) * 2 := by rw [eds_len, List.length_drop, hl]
  have hall : ∀ j u, (eds l)[j]? = some u → w.cell? ⟨g, j, none⟩ = some u := fun j u hj => by
    rw [← htk, List.getElem?_take] at hj
    split at hj
    · simp only [World.cell?, hg]
      simpa using hj
    · cases hj
  obtain ⟨i0, hi0, hz0, hzs, hzb⟩ := info_parts infoEdge
  have hkk : (n : Int) + (m : Int) - (i : Int) = ((n + m - i : Nat) : Int) := by omega
  have hik : i + (n + m - i) = n + m := by omega
  have hold : (Builtin.firstCells i0.size i (.slice (some ⟨g, 0, none⟩) i cap)).run Try.prog w.drew = .ok (eds (l.take i)).toArray w.drew := by
    rw [hzs]
    exact run_firstCells_some w.drew 2 i ⟨g, 0, none⟩ i cap (eds (l.take i)) (by rw [eds_len, List.length_take]; omega) (fun j v hj => by
      rw [addLit, Nat.zero_add]
      refine hall j v ?_
      rw [← eds_take, List.getElem?_take] at hj
      split at hj
      · exact hj
      · cases hj)
  obtain ⟨G, hG⟩ : ∃ G, G = grownCap w (n + m) cap 54 := ⟨_, rfl⟩
  have hGn : n + m ≤ G := by rw [hG]; exact grownCap_ge w _ _ _
  have hG63 : G ≤ 9223372036854775807 := by
    have := grownCap_le_maxLen w (n + m) cap 54 (by unfold maxLen; omega)
    rw [← hG] at this
    unfold maxLen at this
    omega
  obtain ⟨ROW, hROW⟩ : ∃ ROW : Array Value, ROW = (eds (l.take i)).toArray ++ Builtin.zeroCells (Value.agg #[.int .u8 0, .int .i64 0]).cells (n + m - i) ++ Builtin.zeroCells (Value.agg #[.int .u8 0, .int .i64 0]).cells (G - (n + m)) := ⟨_, rfl⟩
  have hrz : ∀ ty, (Builtin.append_ #[47, 3] ty #[.slice (some ⟨g, 0, none⟩) i cap, .int .i64 ((n : Int) + (m : Int) - (i : Int))]).run Try.prog w =
      .ok (.slice (some ⟨w.heap.size, 0, none⟩) (n + m) G) (w.drew.alloc (.cells ROW 54)) := fun ty => by
    have h := Lib.run_append_grow_zeros (P := Try.prog) w 47 3 ty 54 i0 _ .i64 .i64 Try.underlying47 Try.underlying3 hi0 hz0 (some ⟨g, 0, none⟩) i cap (eds (l.take i)) hold (n + m - i) (by omega) (by omega) (by omega) (by omega) (by rw [hzb]; omega) (by rw [hzb, hik]; exact growslice_fits hroom (by omega))
    rw [hik, ← hG] at h
    rw [hkk, hROW]
    exact h
  have hRs : ROW.size = G * 2 := by
    rw [hROW]
    simp [Builtin.zeroCells, Value.cells, eds_len, hl]
    omega
  have hRl : ROW.toList.length = G * 2 := by rw [Array.length_toList]; exact hRs
  have hRt : ROW.toList.take (i * 2) = eds (l.take i) := by
    rw [hROW]
    simp only [Array.toList_append, List.append_assoc]
    rw [List.take_append_of_le_length (by simp [eds_len, hl]; omega), List.take_of_length_le (by simp [eds_len]; omega)]
  obtain ⟨H, hH⟩ : ∃ H, H = w.heap.size := ⟨_, rfl⟩
  obtain ⟨W0, hW0⟩ : ∃ W0, W0 = w.drew.alloc (.cells ROW 54) := ⟨_, rfl⟩
  have hs0 : W0.heap.size = H + 1 := by rw [hW0, hH]; simp
  have hh0 : W0.heap[H]? = some (.cells ROW 54 (0, 0)) := by rw [hW0, hH]; exact World.alloc_heap_new w.drew _
  have ho0 : ∀ k, k < H → W0.heap[k]? = w.heap[k]? := fun k hk => by rw [hW0]; exact Below.heap_alloc w.drew _ _ (by rw [hH] at hk; exact hk)
  rw [← hH, ← hW0] at hrz
  rw [← hH] at hgl hxl hB
  obtain ⟨c1, hc1⟩ : ∃ c1 : List Value, c1 = ROW.toList.take (i * 2) ++ edCells x ++ ROW.toList.drop (i * 2 + (edCells x).length) := ⟨_, rfl⟩
  obtain ⟨c2, hc2⟩ : ∃ c2 : List Value, c2 = c1.take (i * 2 + 2) ++ eds (l.drop i) ++ c1.drop (i * 2 + 2 + (eds (l.drop i)).length) := ⟨_, rfl⟩
  have hfin := cells_grow hi hl (by omega) hRl hRt hc1 hc2
  have l1 : c1.length = G * 2 := by rw [hc1]; simp only [List.length_append, List.length_take, List.length_drop, show (edCells x).length = 2 from rfl, hRl]; omega
  have hcA : ∀ ty dc, (Builtin.copy_ #[47, 47] ty #[.slice (some ⟨H, i * 2, none⟩) (n + m - i) dc, .slice (some ⟨xb, 0, none⟩) m vc]).run Try.prog W0 = .ok (goInt ((1 : Nat) : Int)) (W0.setRow H c1.toArray) := fun ty dc => by
    have h := run_copy_rowk (P := Try.prog) W0 47 47 ty 54 2 H (i * 2) (n + m - i) dc ⟨xb, 0, none⟩ m vc ROW 54 (edCells x) Try.underlying47 sizeEdge hh0
      (by rw [min_b hi hm]; rfl) (fun j u hj => by
        rw [addLit, Nat.zero_add]
        simp [World.cell?, ho0 xb hxl, hx]
        match j, hj with
        | 0, hj => simpa [edCells] using hj
        | 1, hj => simpa [edCells] using hj) (by rw [hRs]; show i * 2 + 2 ≤ _; omega) (fun u hu => eds_one (l := [x]) u (by simpa [eds] using hu))
    rw [min_b hi hm] at h
    rw [h, hc1]
  obtain ⟨W1, hW1⟩ : ∃ W1, W1 = (W0.setRow H c1.toArray).drew := ⟨_, rfl⟩
  have hh1 : W1.heap[H]? = some (.cells c1.toArray 54 (0, 0)) := by rw [hW1]; exact setRow_heap W0 H _ _ _ _ hh0
  have ho1 : ∀ k, k < H → W1.heap[k]? = w.heap[k]? := fun k hk => by rw [hW1]; exact (setRow_other W0 H k _ (by omega)).trans (ho0 k hk)
  have hcB : ∀ ty dc sc, (Builtin.copy_ #[47, 47] ty #[.slice (some ⟨H, (i + m) * 2, none⟩) (n + m - (i + m)) dc, .slice (some ⟨g, i * 2, none⟩) (n - i) sc]).run Try.prog W1 = .ok (goInt ((n - i : Nat) : Int)) (W1.setRow H c2.toArray) := fun ty dc sc => by
    have h := run_copy_rowk (P := Try.prog) W1 47 47 ty 54 2 H ((i + m) * 2) (n + m - (i + m)) dc ⟨g, i * 2, none⟩ (n - i) sc c1.toArray 54 (eds (l.drop i)) Try.underlying47 sizeEdge hh1
      (by rw [min_c hi hm]; exact hd) (fun j u hj => by
        rw [addLit, World.cell?_of_block (w := w) (ho1 g hgl)]
        exact hall _ u (by rw [← List.getElem?_drop, eds_drop]; exact hj)) (by rw [hd, List.size_toArray, l1, hm]; omega) eds_one
    rw [min_c hi hm] at h
    rw [h, hc2, hm, show (i + 1) * 2 = i * 2 + 2 by omega, List.toList_toArray]
  have HR : Hid (InsR B (.slice (some ⟨g, 0, none⟩) n cap) n (l.take i ++ x :: l.drop i) w (.returned (.slice (some ⟨H, 0, none⟩) (n + m) G)) (W1.setRow H c2.toArray)) := Lib.hid (by
    have hb : (W1.setRow H c2.toArray).heap[H]? = some (.cells c2.toArray 54 (0, 0)) := setRow_heap W1 H _ _ _ _ hh1
    refine ⟨_, rfl, ⟨by rw [eds_len]; simp [hl]; omega, .inr ⟨H, G, c2.toArray, by rw [hm], hB, hb, by omega, by unfold maxLen; omega, by simpa using hfin.1, by simpa using hfin.2⟩⟩, ⟨by rw [hW1, hW0]; rfl, by rw [hW1, hW0]; rfl, by rw [hW1, hW0]; rfl, by rw [hW1, hW0]; simp [World.setRow] <;> omega, fun k hk hne => ?_⟩, .inr fun k hk => ?_⟩
    · rw [← hH] at hk
      rw [setRow_other _ _ _ _ (by omega)]
      exact ho1 k hk
    · simp [Value.ownBlock] at hk
      omega)
  have hz1 : ¬ ((m : Int) = 0) := by omega
  have hz2 : ¬ ((i : Int) = (n : Int)) := by omega
  have hz3 : (cap : Int) < (n : Int) + (m : Int) := by omega
  have hGi : ¬ (G = i) := by omega
  have hGim : ¬ (G = i + m) := by omega
  have hci : ¬ (cap = i) := by omega
  have hw1 : IntKind.i64.wrap ((i : Int) + (m : Int)) = (i : Int) + (m : Int) := by rw [IntKind.wrap_i64]; omega
  have hb1 : (0 : Int) ≤ (i : Int) + (m : Int) := by omega
  have hin : i ≤ n := by omega
  have htn : ((i : Int) + (m : Int)).toNat = i + m := by omega
  have hb3 : (i : Int) ≤ (n : Int) := by omega
  have hcap : cap ≤ 9223372036854775807 := by omega
  have hWd : (W0.setRow H c1.toArray).drew = W1 := hW1.symm
  clear hx hd hall hold hc1 hc2 hfin l1 hh1 hW1 hg hcs htk hl hm hkk hik hROW hG hRl hRs hRt hh0 ho0 ho1 hW0 hs0 hH hi0 hz0 hzs hzb
  go_enter Try.func23, Try.ntmps23
  go_wp2_with (first
    | (at_builtin; refine wpList_append_runE _ rfl _ _ _ _ rfl _ _ rfl rfl (hrz _) ?_)
    | (at_builtin; refine wpList_copy_runE _ rfl _ _ 47 47 rfl _ _ rfl rfl (hcA _ _) ?_))
  go_region_law (refine step_copy_runE rfl _ _ 47 47 rfl (.slice (some ⟨H, (i + m) * 2, none⟩) (n + m - (i + m)) (G - (i + m))) (.slice (some ⟨g, i * 2, none⟩) (n - i) (cap - i)) (by simp [Act.eval, Act.put]) (by simp [Act.eval, Act.put]) (by rw [hWd]; exact hcB _ _ _) ?_)
  go_wp2
  go_ret
  exact HR.out
/-- Insert at an own row of edges, wherever. -/
theorem ins_any (B : Nat) (v : Value) (n i : Nat) (l : List Eg) (x : Eg) (xb : Nat) (w : World) (hown : w.ownsRow B 54 2 v n (eds l)) (hB : B ≤ w.heap.size) (hn : n ≤ 1000) (hi : i ≤ n) (hx : w.heap[xb]? = some (.cells #[.int .u8 x.c, .int .i64 x.to] 54 (0, 0))) (hne : v.ownBlock ≠ some xb) :
    Calls Try.prog 23 #[v, .int .i64 i, .slice (some ⟨xb, 0, none⟩) 1 1] w (InsR B v n (l.take i ++ x :: l.drop i) w) := by
  have hl : l.length = n := by have := hown.1; rw [eds_len] at this; omega
  by_cases he : i = n
  · subst he
    rw [List.take_of_length_le (by omega), List.drop_eq_nil_of_le (by omega)]
    exact ins_end B v i l x xb w hown hB hn hx
  · rcases hown.2 with ⟨_, h0⟩ | ⟨g, cap, cur, rfl, hbg, hg, hnc, hcm, hcs, htk⟩
    · omega
    · have hng : xb ≠ g := fun e => hne (by rw [e]; rfl)
      unfold maxLen at hcm
      by_cases hroom : n + 1 ≤ cap
      · exact ins_room B g cap n i 1 1 rfl l x xb w cur hbg hg hcs htk hl (by omega) hroom (by omega) hx hng
      · exact ins_grow B g cap n i 1 1 rfl l x xb w cur hB hg hcs htk hl (by omega) hnc (by omega) hn hx hng
end Go.Proofs.Ytggepbkhhnhnkaa
