/- Parts of a proof, laid together. -/
import Derived.Test.YtbbbeldbhlehnaaGreatShelf
import Derived.RangeFuncRecord
import Derived.WalkSpells
import Derived.Deep.RegionHeld3
import Derived.Test.YtbbbeldbhlehnaaGreatMUsesTellsRow33
import Derived.Test.YtbbbeldbhlehnaaGreatMUsesTellsRow2
import Derived.Test.YtbbbeldbhlehnaaGreatMUsesTellsRow12
set_option linter.unusedSimpArgs false
set_option linter.unusedVariables false
/-! Rows of a call's own that the library sorts: texts, uses. -/
section
set_option linter.unusedVariables false
set_option linter.unusedSimpArgs false
namespace Go.Proofs.YtbbbeldbhlehnaaGreat
open Go.RowKit Gno Go.Sort
theorem addP (g o j : Nat) : (⟨g, o, none⟩ : Addr).add j = ⟨g, o + j, none⟩ := by unfold Addr.add; split <;> simp_all
theorem cell_ofU {W : World} {b o : Nat} {cs : Array Value} {T : TypeId} {v : Value} (h : W.heap[b]? = some (.cells cs T)) (hv : cs[o]? = some v) : W.cell? ⟨b, o, none⟩ = some v := by simp [World.cell?, h, hv]
theorem own_blockR {w : World} {B g n cap sz : Nat} {e : TypeId} {xs : List Value} (h : w.ownsRow B e sz (.slice (some ⟨g, 0, none⟩) n cap) n xs) :
    ∃ cur, B ≤ g ∧ w.heap[g]? = some (.cells cur e (0, 0)) ∧ n ≤ cap ∧ cap ≤ maxLen ∧ cur.size = cap * sz ∧ cur.toList.take (n * sz) = xs := by
  rcases h.2 with ⟨e1, _⟩ | ⟨g', cap', cur, e1, hb, hg, hnc, hcm, hcs, ht⟩
  · cases e1
  · injection e1 with e1 _ e3
    injection e1 with e1
    injection e1 with e1 _ _
    subst e1
    subst e3
    exact ⟨cur, hb, hg, hnc, hcm, hcs, ht⟩
theorem own_holdsId {w : World} {B g n cap sz : Nat} {e : TypeId} {xs : List Value} (h : w.ownsRow B e sz (.slice (some ⟨g, 0, none⟩) n cap) n xs) : Holds id w g 0 xs.toArray := by
  intro j hj
  have hj' : j < xs.length := by simpa using hj
  have hc := h.cells (g := g) rfl j xs[j] (List.getElem?_eq_getElem hj')
  rw [addP] at hc
  obtain ⟨cur, _, hg, _⟩ := own_blockR h
  rw [getElem!_pos xs.toArray j hj]
  exact ⟨by simpa using hc, by simp [World.frozen?, hg]⟩
theorem own_putId {w : World} {B g n cap sz : Nat} {e : TypeId} {xs ys : List Value} (h : w.ownsRow B e sz (.slice (some ⟨g, 0, none⟩) n cap) n xs) (hy : ys.length = xs.length) (m : Nat) (os : Array Obj) :
    (grow (putRow id (Go.Sort.ahead w m) g 0 ys.toArray) os).ownsRow B e sz (.slice (some ⟨g, 0, none⟩) n cap) n ys := by
  have hz : xs.length = n * sz := h.1
  obtain ⟨cur, hb, hg, hnc, hcm, hcs, ht⟩ := own_blockR h
  have hle : n * sz ≤ cur.size := by rw [hcs]; exact Nat.mul_le_mul_right _ hnc
  refine ⟨by omega, .inr ⟨g, cap, putCells id 0 ys.toArray cur, rfl, hb, ?_, hnc, hcm, by unfold putCells; simpa using hcs, ?_⟩⟩
  · have hgl := (Array.getElem?_eq_some_iff.1 hg).1
    simp only [grow, putRow, mapBlock, Go.Sort.ahead]
    rw [Array.getElem?_append_left (by simpa using hgl), Array.getElem?_modify, if_pos rfl, hg]
    rfl
  · apply List.ext_getElem?
    intro j
    unfold putCells
    rw [List.getElem?_take]
    by_cases hj : j < n * sz
    · have hjc : j < cur.size := by omega
      have hjy : j < ys.length := by omega
      rw [if_pos hj]
      simp only [Array.getElem?_toList, Array.getElem?_mapIdx]
      rw [Array.getElem?_eq_getElem hjc, List.getElem?_eq_getElem hjy]
      simp [hjy]
    · rw [if_neg hj, List.getElem?_eq_none (by omega)]
theorem row_grownId (w : World) (g m : Nat) (ys : Array Value) (os : Array Obj) : w.grownBy (grow (putRow id (Go.Sort.ahead w m) g 0 ys) os) (some g) where
  os := rfl
  tape := rfl
  output := rfl
  size := by simp [grow, putRow, mapBlock, Go.Sort.ahead]
  block := fun k hk hne => by
    have hne : g ≠ k := fun e => hne (by rw [e])
    simp only [grow, putRow, mapBlock, Go.Sort.ahead]
    rw [Array.getElem?_append_left (by simpa using hk), Array.getElem?_modify, if_neg hne]
theorem putCells_map {α : Type} [Inhabited α] (enc : α → Value) (o : Nat) (d : Array α) (c : Array Value) : putCells enc o d c = putCells id o (d.map enc) c := by
  unfold putCells
  refine Array.ext (by simp) fun i h1 h2 => ?_
  simp only [Array.getElem_mapIdx, Array.size_map]
  split
  · rename_i h
    have hi : i - o < d.size := by omega
    rw [getElem!_pos d _ hi, getElem!_pos (d.map enc) _ (by simpa using hi)]
    simp
  · rfl
theorem putRow_map {α : Type} [Inhabited α] (enc : α → Value) (w : World) (b o : Nat) (d : Array α) : putRow enc w b o d = putRow id w b o (d.map enc) := by
  unfold putRow
  congr 1
  funext c
  exact putCells_map enc o d c
theorem holds_map {α : Type} [Inhabited α] {enc : α → Value} {w : World} {b o : Nat} {d : Array α} (h : Holds id w b o (d.map enc)) : Holds enc w b o d := by
  intro j hj
  have h1 := h j (by simpa using hj)
  rw [getElem!_pos d j hj]
  rw [getElem!_pos (d.map enc) j (by simpa using hj)] at h1
  simpa using h1
/-! texts -/
theorem strs_enc (l : List ByteArray) : ((l.map fun s => s.toList).toArray.map encStr) = (strs l).toArray := by
  simp only [strs, List.map_toArray, List.map_map]
  congr 1
  refine List.map_congr_left fun s _ => ?_
  show Value.string ⟨s.toList.toArray⟩ = Value.string s
  rw [ByteArray.toList_eq]
theorem sort_strs {w : World} {B g n cap : Nat} {l : List ByteArray} (h : w.ownsRow B 9 1 (.slice (some ⟨g, 0, none⟩) n cap) n (strs l)) (hn : n < 4611686018427387904) :
    Calls Tryz.prog 19 #[.slice (some ⟨g, 0, none⟩) n cap] w fun e w' => e = .returned (.tuple #[]) ∧ w'.ownsRow B 9 1 (.slice (some ⟨g, 0, none⟩) n cap) n (strs (sortB l)) ∧ w.grownBy w' (some g) := by
  have hl : (l.map fun s => s.toList).length = n := by have := h.1; unfold strs at this; simpa using this
  have hH : Holds encStr w g 0 (l.map fun s => s.toList).toArray := holds_map (by rw [strs_enc]; exact own_holdsId h)
  have := Go.Proofs.Tryz.slices_Sort_string g 0 cap (l.map fun s => s.toList) w hH (h.lt g rfl).2 (by omega)
  rw [hl, sortB_map] at this
  refine this.mono ?_
  rintro e w' ⟨rfl, m, os, rfl⟩
  rw [putRow_map, strs_enc]
  exact ⟨rfl, own_putId h (by unfold strs; rw [List.length_map, List.length_map, sortB_len]) m os, row_grownId w g m _ os⟩
/-! uses -/
theorem flat_us (l : List Us) : flatK usCells 4 l.toArray = (uss l).toArray := by
  refine ext_get! (by simp [uss_len]) fun t ht => ?_
  have ht' : t < l.length * 4 := by simpa using ht
  rw [get_flatK _ _ _ t (by simpa using ht')]
  have hi : t / 4 < l.length := by omega
  obtain ⟨x, hx⟩ : ∃ x, l[t / 4]? = some x := ⟨_, List.getElem?_eq_getElem hi⟩
  obtain ⟨g0, g1, g2, g3⟩ := uss_get l (t / 4) x hx
  have hxa : l.toArray[t / 4]! = x := by
    rw [getElem!_pos l.toArray (t / 4) (by simpa using hi)]
    have := (List.getElem?_eq_some_iff.1 hx).2
    simpa using this
  have key : ∀ {v : Value}, (uss l)[t]? = some v → (uss l).toArray[t]! = v := fun {v} h => by
    obtain ⟨h1, h2⟩ := List.getElem?_eq_some_iff.1 h
    rw [getElem!_pos (uss l).toArray t (by simpa using h1)]
    simpa using h2
  rw [hxa]
  have hm : t % 4 = 0 ∨ t % 4 = 1 ∨ t % 4 = 2 ∨ t % 4 = 3 := by omega
  rcases hm with hm | hm | hm | hm
  · rw [hm, key (by rw [show t = t / 4 * 4 by omega]; exact g0)]; rfl
  · rw [hm, key (by rw [show t = t / 4 * 4 + 1 by omega]; exact g1)]; rfl
  · rw [hm, key (by rw [show t = t / 4 * 4 + 2 by omega]; exact g2)]; rfl
  · rw [hm, key (by rw [show t = t / 4 * 4 + 3 by omega]; exact g3)]; rfl
end Go.Proofs.YtbbbeldbhlehnaaGreat
end
/-! uses.Check's closures; slices.Clone and slices.SortFunc at uses. -/
section
set_option linter.unusedVariables false
set_option linter.unusedSimpArgs false
namespace Go.Proofs.YtbbbeldbhlehnaaGreat
open Go.RowKit Gno
theorem containsZone_any (g : Nat) (lb : Array Value) (eg : ∀ args w, (callFunc g args).run Tryz.prog w = .ok (.enter g args) w) (p : Zn → Bool) (A : Option Addr) (n cap : Nat) (l : List Zn) (w : World)
    (hR : ZonesAt w w.heap.size A n l) (hp : PredZone Tryz.prog g lb p l w) :
    Calls Tryz.prog 29 #[.slice A n cap, .func (.func g) #[] lb] w fun e w' => e = .returned (.bool (hasP p l)) ∧ Below w.heap.size w w' := by
  have C := Lib.hid (indexZone_any g lb eg p A n cap l w hR hp)
  clear hR hp eg
  go_enter Tryz.func29, Tryz.ntmps29
  go_wp2_with (go_at_call 44; (with_reducible refine C.out.mono ?_); rintro e w4 ⟨rfl, hb4⟩)
  go_ret
  exact ⟨ret_bool rfl, hb4⟩
theorem zoneIs_any (z : Zn) (u : ByteArray) (ub : Nat) (w : World) (hc : w.cell? ⟨ub, 0, none⟩ = some (.string u)) :
    Calls Tryz.prog 30 #[.agg #[.string z.name, .slice z.A z.n z.cap], .pointer (some ⟨ub, 0, none⟩)] w fun e w' => e = .returned (.bool (isZone u z)) ∧ Below w.heap.size w w' := by
  have hc2 : (w.alloc (.cells #[.string z.name, .slice z.A z.n z.cap] 41)).cell? ⟨ub, 0, none⟩ = some (.string u) := by rw [World.cell?_alloc_past _ _ _ (lt_of_cell' hc)]; exact hc
  cases hq : isZone u z
  · have h1 : (z.name.toList == u.toList) = false := hq
    clear hq
    go_enter Tryz.func30, Tryz.ntmps30
    go_wp2
    go_ret
    exact ⟨rfl, (Below.refl _ _).alloc (Nat.le_refl _) _⟩
  · have h1 : (z.name.toList == u.toList) = true := hq
    clear hq
    go_enter Tryz.func30, Tryz.ntmps30
    go_wp2
    go_ret
    exact ⟨rfl, (Below.refl _ _).alloc (Nat.le_refl _) _⟩
theorem zoneC_any (d : Dt) (u : Us) (db : Nat) (w : World) (hD : ZonesAt w w.heap.size d.zA d.zn d.zs) (hc : w.cell? ⟨db, 1, none⟩ = some (.slice d.zA d.zn d.zc)) :
    Calls Tryz.prog 28 #[.agg #[.string u.zone, .int .i64 u.fr, .int .i64 u.til, .string u.mt], .pointer (some ⟨db, 0, none⟩)] w fun e w' => e = .returned (.bool (!noZone d u)) ∧ Below w.heap.size w w' := by
  obtain ⟨w1, hw1⟩ : ∃ w1, w1 = w.alloc (.cells #[.string u.zone, .int .i64 u.fr, .int .i64 u.til, .string u.mt] 43) := ⟨_, rfl⟩
  have hb1 : Below w.heap.size w w1 := by rw [hw1]; exact (Below.refl _ _).alloc (Nat.le_refl _) _
  have hz1 : w1.heap.size = w.heap.size + 1 := by rw [hw1]; simp
  have hk : w1.heap[w.heap.size]? = some (.cells #[.string u.zone, .int .i64 u.fr, .int .i64 u.til, .string u.mt] 43 (0, 0)) := by rw [hw1]; exact World.alloc_heap_new w _
  have hc1 : w1.cell? ⟨db, 1, none⟩ = some (.slice d.zA d.zn d.zc) := (hb1.cell (lt_of_cell' hc)).trans hc
  have hZ : ZonesAt w1 w1.heap.size d.zA d.zn d.zs := SlAt.below keeps_zn (SlAt.below keeps_zn hD hb1 (Nat.le_refl _)) (Below.refl w1.heap.size _) hb1.size
  have C : Hid (Calls Tryz.prog 29 #[.slice d.zA d.zn d.zc, .func (.func 30) #[] #[.pointer (some ⟨w.heap.size, 0, none⟩)]] w1 fun e w' => e = .returned (.bool (!noZone d u)) ∧ Below w1.heap.size w1 w') := Lib.hid (by
    have h := containsZone_any 30 #[.pointer (some ⟨w.heap.size, 0, none⟩)] (enters_of Tryz.func30 (by kernel_rfl) rfl) (isZone u.zone) d.zA d.zn d.zc d.zs w1 hZ (fun W z hz hW => zoneIs_any z u.zone w.heap.size W (by
      rw [hW.cell (p := ⟨w.heap.size, 0, none⟩) (by show w.heap.size < w1.heap.size; omega)]
      simp [World.cell?, hk]))
    have e : hasP (isZone u.zone) d.zs = !noZone d u := by
      unfold hasP noZone zoneN
      rw [← decide_not]
      congr 1
      simp
    rw [e] at h
    exact h)
  have HB1 := Lib.hid hb1
  clear hZ hD hk hc hb1 hz1
  subst hw1
  go_enter Tryz.func28, Tryz.ntmps28
  go_wp2_with (go_at_call 29; (with_reducible refine C.out.mono ?_); rintro e w4 ⟨rfl, hb4⟩)
  go_ret
  exact ⟨rfl, HB1.out.trans (hb4.mono HB1.out.size)⟩
abbrev useV (u : Us) : Value := .agg #[.string u.zone, .int .i64 u.fr, .int .i64 u.til, .string u.mt]
theorem badMt_any (u : Us) (w : World) (hu : u.mt.size ≤ maxLen) :
    Calls Tryz.prog 32 #[.agg #[.string u.zone, .int .i64 u.fr, .int .i64 u.til, .string u.mt]] w fun e w' => e = .returned (.bool (badMt u)) ∧ Below w.heap.size w w' := by
  have C := Lib.hid (fun w => name_any u.mt w hu)
  have HB : Hid (Below w.heap.size w (w.alloc (.cells #[.string u.zone, .int .i64 u.fr, .int .i64 u.til, .string u.mt] 43))) := Lib.hid ((Below.refl _ _).alloc (Nat.le_refl _) _)
  clear hu
  go_enter Tryz.func32, Tryz.ntmps32
  go_wp2_with (go_at_call 18; (with_reducible refine (C.out _).mono ?_); rintro e w1 ⟨rfl, hb1⟩)
  go_ret
  exact ⟨ret_bool rfl, HB.out.trans (hb1.mono (by simp))⟩
theorem noZone_any (d : Dt) (u : Us) (db zb : Nat) (w : World) (hD : ZonesAt w w.heap.size d.zA d.zn d.zs) (hc : w.cell? ⟨db, 1, none⟩ = some (.slice d.zA d.zn d.zc)) (hz : w.cell? ⟨zb, 0, none⟩ = some (.func (.func 28) #[] #[.pointer (some ⟨db, 0, none⟩)])) :
    Calls Tryz.prog 33 #[.agg #[.string u.zone, .int .i64 u.fr, .int .i64 u.til, .string u.mt], .pointer (some ⟨zb, 0, none⟩)] w fun e w' => e = .returned (.bool (noZone d u)) ∧ Below w.heap.size w w' := by
  obtain ⟨w1, hw1⟩ : ∃ w1, w1 = w.alloc (.cells #[.string u.zone, .int .i64 u.fr, .int .i64 u.til, .string u.mt] 43) := ⟨_, rfl⟩
  have hb1 : Below w.heap.size w w1 := by rw [hw1]; exact (Below.refl _ _).alloc (Nat.le_refl _) _
  have hk : w1.heap[w.heap.size]? = some (.cells #[.string u.zone, .int .i64 u.fr, .int .i64 u.til, .string u.mt] 43 (0, 0)) := by rw [hw1]; exact World.alloc_heap_new w _
  have hc1 : w1.cell? ⟨db, 1, none⟩ = some (.slice d.zA d.zn d.zc) := (hb1.cell (lt_of_cell' hc)).trans hc
  have k0 : w1.cell? ⟨zb, 0, none⟩ = some (.func (.func 28) #[] #[.pointer (some ⟨db, 0, none⟩)]) := (hb1.cell (lt_of_cell' hz)).trans hz
  have hZ : ZonesAt w1 w1.heap.size d.zA d.zn d.zs := SlAt.below keeps_zn (SlAt.below keeps_zn hD hb1 (Nat.le_refl _)) (Below.refl w1.heap.size _) hb1.size
  have C := Lib.hid (zoneC_any d u db w1 hZ hc1)
  have eg : ∀ args w, (callFunc 28 args).run Tryz.prog w = .ok (.enter 28 args) w := enters_of Tryz.func28 (by kernel_rfl) rfl
  have HB1 := Lib.hid hb1
  have u0 : w1.cell? ⟨w.heap.size, 0, none⟩ = some (.string u.zone) := by simp [World.cell?, hk]
  have u1 : w1.cell? ⟨w.heap.size, 1, none⟩ = some (.int .i64 u.fr) := by simp [World.cell?, hk]
  have u2 : w1.cell? ⟨w.heap.size, 2, none⟩ = some (.int .i64 u.til) := by simp [World.cell?, hk]
  have u3 : w1.cell? ⟨w.heap.size, 3, none⟩ = some (.string u.mt) := by simp [World.cell?, hk]
  clear hZ hD hk hc hc1 hz hb1
  subst hw1
  go_enter Tryz.func33, Tryz.ntmps33
  go_wp2_with (go_at_fn 28; (with_reducible refine C.out.mono ?_); rintro e w4 ⟨rfl, hb4⟩)
  go_ret
  exact ⟨ret_bool (by simp), HB1.out.trans (hb4.mono HB1.out.size)⟩
theorem badUse_any (u : Us) (w : World) :
    Calls Tryz.prog 34 #[.agg #[.string u.zone, .int .i64 u.fr, .int .i64 u.til, .string u.mt]] w fun e w' => e = .returned (.bool (badUse u)) ∧ Below w.heap.size w w' := by
  have HB : Hid (Below w.heap.size w (w.alloc (.cells #[.string u.zone, .int .i64 u.fr, .int .i64 u.til, .string u.mt] 43))) := Lib.hid ((Below.refl _ _).alloc (Nat.le_refl _) _)
  by_cases h1 : u.fr < 0
  · have d1 : decide (u.fr < 0) = true := decide_eq_true h1
    have e : badUse u = true := by unfold badUse; rw [d1]; rfl
    rw [e]
    clear e
    go_enter Tryz.func34, Tryz.ntmps34
    go_wp2
    go_ret
    exact ⟨rfl, HB.out⟩
  · have d1 : decide (u.fr < 0) = false := decide_eq_false h1
    by_cases h2 : u.til ≤ u.fr
    · have d2 : decide (u.til ≤ u.fr) = true := decide_eq_true h2
      have e : badUse u = true := by unfold badUse; rw [d1, d2]; rfl
      rw [e]
      clear e h1
      go_enter Tryz.func34, Tryz.ntmps34
      go_wp2
      go_ret
      exact ⟨rfl, HB.out⟩
    · have d2 : decide (u.til ≤ u.fr) = false := decide_eq_false h2
      by_cases h3 : 1893456000 < u.til
      · have d3 : decide ((1893456000 : Int) < u.til) = true := decide_eq_true h3
        have e : badUse u = true := by unfold badUse; rw [d1, d2, d3]; rfl
        rw [e]
        clear e h1 h2
        go_enter Tryz.func34, Tryz.ntmps34
        go_wp2
        go_ret
        exact ⟨rfl, HB.out⟩
      · have d3 : decide ((1893456000 : Int) < u.til) = false := decide_eq_false h3
        have e : badUse u = false := by unfold badUse; rw [d1, d2, d3]; rfl
        rw [e]
        clear e h1 h2 h3
        go_enter Tryz.func34, Tryz.ntmps34
        go_wp2
        go_ret
        exact ⟨rfl, HB.out⟩
/-! slices.Clone -/
theorem uss_cells {w : World} {B n : Nat} {ad : Addr} {l : List Us} (h : UsesAt w B (some ad) n l) : ∀ j v, (uss l)[j]? = some v → w.cell? (ad.add j) = some v := by
  intro j v hj
  have hjl : j < l.length * 4 := by have := (List.getElem?_eq_some_iff.1 hj).1; rwa [uss_len] at this
  obtain ⟨b, o, hA, hbB, hc⟩ := h.2.2 (by rw [← h.1]; omega)
  injection hA with hA
  subst hA
  obtain ⟨x, hx⟩ : ∃ x, l[j / 4]? = some x := ⟨_, List.getElem?_eq_getElem (by omega)⟩
  obtain ⟨g0, g1, g2, g3⟩ := uss_get l (j / 4) x hx
  obtain ⟨⟨c0, c1, c2, c3⟩, _⟩ := hc _ x hx
  rw [addP]
  have hm : j = j / 4 * 4 ∨ j = j / 4 * 4 + 1 ∨ j = j / 4 * 4 + 2 ∨ j = j / 4 * 4 + 3 := by omega
  rcases hm with hm | hm | hm | hm
  · rw [hm, g0] at hj; rw [hm, c0, hj]
  · rw [hm, g1] at hj; rw [hm, show o + (j / 4 * 4 + 1) = o + j / 4 * 4 + 1 by omega, c1, hj]
  · rw [hm, g2] at hj; rw [hm, show o + (j / 4 * 4 + 2) = o + j / 4 * 4 + 2 by omega, c2, hj]
  · rw [hm, g3] at hj; rw [hm, show o + (j / 4 * 4 + 3) = o + j / 4 * 4 + 3 by omega, c3, hj]
set_option maxRecDepth 100000 in
set_option maxHeartbeats 4000000 in
theorem cloneUse_any (A : Option Addr) (n cap : Nat) (l : List Us) (w : World) (hR : UsesAt w w.heap.size A n l) (hn : n ≤ 1000) :
    Calls Tryz.prog 35 #[.slice A n cap] w fun e w' => ∃ v, e = .returned v ∧ w'.ownsRow w.heap.size 43 4 v n (uss l) ∧ Below w.heap.size w w' := by
  have hq := fun (w : World) (a : Option Addr) (n c n' c' : Nat) => Lib.run_eql_slice_nil (P := Tryz.prog) w 27 43 a n c n' c' Tryz.underlying27
  cases A with
  | none =>
    have hn0 : n = 0 := by
      rcases Nat.eq_zero_or_pos n with h | h
      · exact h
      · obtain ⟨b, o, hA, _⟩ := hR.2.2 h
        cases hA
    have hl : l = [] := List.eq_nil_of_length_eq_zero (by rw [hR.1]; exact hn0)
    subst hn0 hl
    clear hR
    go_enter Tryz.func35, Tryz.ntmps35
    go_wp2
    go_ret
    exact ⟨_, rfl, World.ownsRow_nil _ _ _ _, Below.refl _ _⟩
  | some ad =>
    have hal : Below w.heap.size w (w.alloc (.cells #[] 43)) := (Below.refl _ _).alloc (Nat.le_refl _) _
    have HOA : Hid ((w.alloc (.cells #[] 43)).ownsRow w.heap.size 43 4 (.slice (some ⟨w.heap.size, 0, none⟩) 0 0) 0 []) := Lib.hid ⟨rfl, .inr ⟨w.heap.size, 0, _, rfl, Nat.le_refl _, World.alloc_heap_new w _, Nat.le_refl _, by unfold maxLen; omega, rfl, rfl⟩⟩
    have HC := Lib.hid (uss_cells (SlAt.below keeps_us hR hal (Nat.le_refl _)))
    have HL : Hid ((uss l).length = n * 4) := Lib.hid (by rw [uss_len, hR.1])
    have H1 := Lib.hid (uss_one l)
    have HB := Lib.hid hal
    clear hR hal
    go_enter Tryz.func35, Tryz.ntmps35
    go_wp2_with (at_builtin; go_must (refine wpList_app2 rfl _ _ 27 rfl w.heap.size 43 (.agg #[.string ⟨#[]⟩, .int .i64 0, .int .i64 0, .string ⟨#[]⟩]) 4 48 Tryz.underlying27 infoUse rfl (by decide) _ 0 _ rfl HOA.out ad n cap (uss l) rfl HL.out HC.out H1.out (by unfold maxLen; omega) (by omega) (by simp) ?_); intro v' w4 hown4 hg4 hn4)
    go_ret
    refine ⟨_, rfl, by simpa using hown4, HB.out.grown hg4 (by simp) (fun k hk => (HOA.out.lt k hk).1)⟩
/-! slices.SortFunc -/
set_option maxRecDepth 100000 in
theorem insUse_none (A : Option Addr) (cap : Nat) (fv : Value) (w : World) :
    Calls Tryz.prog 104 #[.slice A 0 cap, .int .i64 0, .int .i64 0, fv] w fun e w' => e = .returned (.tuple #[]) ∧ w = w' := by
  go_enter Tryz.func104, Tryz.ntmps104
  go_wp2
  refine wp_loop_rounds 1 ?_
  rw [rounds_succ]
  go_wp2
  go_end0
  exact ⟨rfl, rfl⟩
set_option maxRecDepth 100000 in
theorem pdqUse_none (A : Option Addr) (cap : Nat) (k : Int) (fv : Value) (w : World) :
    Calls Tryz.prog 77 #[.slice A 0 cap, .int .i64 0, .int .i64 0, .int .i64 k, fv] w fun e w' => e = .returned (.tuple #[]) ∧ w = w' := by
  have C := Lib.hid (insUse_none A cap fv)
  go_enter Tryz.func77, Tryz.ntmps77
  go_wp2
  refine wp_loop_rounds 1 ?_
  rw [rounds_succ]
  go_wp2_with (go_at_call 104; (with_reducible refine (C.out _).mono ?_); rintro e w1 ⟨rfl, rfl⟩)
  (try simp only [Exit.inBlock, Exit.then]); refine bodyPost_ret (results_none rfl _ _ _) rfl ?_
  exact ⟨rfl, rfl⟩
set_option maxRecDepth 100000 in
theorem sortUse_none (A : Option Addr) (cap : Nat) (fv : Value) (w : World) :
    Calls Tryz.prog 36 #[.slice A 0 cap, fv] w fun e w' => e = .returned (.tuple #[]) ∧ w = w' := by
  have C := Lib.hid (fun k => pdqUse_none A cap k fv)
  have L := Lib.hid (fun w => Go.Proofs.Tryz.bits_Len 0 w (by decide) (by decide))
  go_enter Tryz.func36, Tryz.ntmps36
  go_wp2_with (first | (go_at_call 56; (with_reducible refine (L.out _).mono ?_); rintro e w1 ⟨rfl, rfl⟩) | (go_at_call 77; (with_reducible refine (C.out _ _).mono ?_); rintro e w1 ⟨rfl, rfl⟩))
  go_end0
  exact ⟨rfl, rfl⟩
end Go.Proofs.YtbbbeldbhlehnaaGreat
end
/-! uses.Check's sort: the closure, the sort. -/
section
set_option linter.unusedVariables false
set_option linter.unusedSimpArgs false
namespace Go.Proofs.YtbbbeldbhlehnaaGreat
open Go.RowKit Gno Go.Sort
theorem third_at (W : World) (p q : Obj) (cs : Array Value) (T : TypeId) (k : Nat) (u : Value) (h : cs[k]? = some u) : (((W.alloc p).alloc q).alloc (.cells cs T)).cell? ⟨W.heap.size + 1 + 1, k, none⟩ = some u := by
  have h9 := World.alloc_heap_new ((W.alloc p).alloc q) (.cells cs T)
  rw [show ((W.alloc p).alloc q).heap.size = W.heap.size + 1 + 1 by simp] at h9
  exact cell_ofU h9 h
set_option maxHeartbeats 4000000 in
theorem useCmp_any (x y : Us) (W : World) :
    Calls Tryz.prog 37 #[.agg #[.string x.zone, .int .i64 x.fr, .int .i64 x.til, .string x.mt], .agg #[.string y.zone, .int .i64 y.fr, .int .i64 y.til, .string y.mt]] W fun e w' => e = .returned (.int .i64 (useCmp x y)) ∧ ∃ q os', w' = grow (W.drewN q) os' := by
  have CS := Lib.hid cmpStr_any
  have CI := Lib.hid cmpInt_any
  have CO := Lib.hid or_any
  have EO := Lib.hid (useCmp_or x y)
  obtain ⟨a, ha⟩ : ∃ a, a = cmpB x.zone y.zone := ⟨_, rfl⟩
  obtain ⟨b, hb⟩ : ∃ b, b = cmpN x.fr y.fr := ⟨_, rfl⟩
  obtain ⟨c, hc⟩ : ∃ c, c = useCmp x y := ⟨_, rfl⟩
  have C1 : Hid (∀ w, Calls Tryz.prog 39 #[.string x.zone, .string y.zone] w fun e w' => e = .returned (.int .i64 a) ∧ w = w') := Lib.hid (by rw [ha]; exact cmpStr_any _ _)
  have C2 : Hid (∀ w, Calls Tryz.prog 40 #[.int .i64 x.fr, .int .i64 y.fr] w fun e w' => e = .returned (.int .i64 b) ∧ w = w') := Lib.hid (by rw [hb]; exact cmpInt_any _ _)
  have C3 : Hid (∀ w B, w.cell? ⟨B, 0, none⟩ = some (.int .i64 a) → w.cell? ⟨B, 1, none⟩ = some (.int .i64 b) → Calls Tryz.prog 38 #[.slice (some ⟨B, 0, none⟩) 2 2] w fun e w' => e = .returned (.int .i64 c) ∧ w = w') := Lib.hid (fun w B h0 h1 => by
    have := or_any B a b w h0 h1
    rwa [ha, hb, useCmp_or, ← hc] at this)
  rw [← hc]
  clear ha hb hc CS CI CO EO
  go_enter Tryz.func37, Tryz.ntmps37
  go_wp2_with fail
  go_region_held3 (fun w' => w'.cell? ⟨W.heap.size, 0, none⟩ = some (.string x.zone) ∧ w'.cell? ⟨W.heap.size, 1, none⟩ = some (.int .i64 x.fr) ∧ w'.cell? ⟨W.heap.size + 1, 0, none⟩ = some (.string y.zone) ∧ w'.cell? ⟨W.heap.size + 1, 1, none⟩ = some (.int .i64 y.fr)) (go_keep) ((first | (go_at_call 39; (with_reducible refine (C1.out _).mono ?_); rintro e w5 ⟨rfl, rfl⟩) | (go_at_call 40; (with_reducible refine (C2.out _).mono ?_); rintro e w5 ⟨rfl, rfl⟩) | (go_at_call 38; refine (C3.out _ _ (by first | exact third_at _ _ _ _ _ _ _ rfl | (simp; exact third_at _ _ _ _ _ _ _ rfl)) (by first | exact third_at _ _ _ _ _ _ _ rfl | (simp; exact third_at _ _ _ _ _ _ _ rfl))).mono ?_; rintro e w5 ⟨rfl, rfl⟩)))
  all_goals
    go_wp2
    go_ret
    exact ⟨rfl, 1, _, by rw [alloc_eq_grow, alloc_eq_grow, alloc_eq_grow, grow_grow, grow_grow]; rfl⟩
theorem sortUse_any {w : World} {B g n cap : Nat} {l : List Us} (h : w.ownsRow B 43 4 (.slice (some ⟨g, 0, none⟩) n cap) n (uss l)) (hn : n ≤ 12) :
    Calls Tryz.prog 36 #[.slice (some ⟨g, 0, none⟩) n cap, .func (.func 37) #[] #[]] w fun e w' => e = .returned (.tuple #[]) ∧ ∃ s : List Us, s.Perm l ∧ (∀ i j (hi : i < s.length) (hj : j < s.length), i < j → ¬ useLt s[j] s[i]) ∧ w'.ownsRow B 43 4 (.slice (some ⟨g, 0, none⟩) n cap) n (uss s) ∧ w.grownBy w' (some g) := by
  have hl : l.length = n := by have := h.1; rw [uss_len] at this; omega
  have hH : HoldsK usCells 4 w g 0 l.toArray := by unfold HoldsK; rw [flat_us]; exact own_holdsId h
  have hcon := AnyQ.slices_SortFunc_small_sorted Go.Proofs.Tryz.sortUse 4 Tryz.isAgg43 Tryz.sizeOf43 usCells (fun _ => rfl) (fun x v hv => by simp [usCells] at hv; rcases hv with rfl | rfl | rfl | rfl <;> rfl) useCmp 37 #[] use_swo g 0 cap l.toArray w
    (enters_of Tryz.func37 (by kernel_rfl) rfl) (fun _ _ _ _ x y => useCmp_any x y _) hH (h.lt g rfl).2 (by simpa [hl] using hn) (fun k W hk => (Go.Proofs.Tryz.bits_Len k W (by omega) (by omega)).mono fun _ _ ⟨he, hw⟩ => ⟨⟨_, he⟩, hw⟩)
  change Calls Tryz.prog 36 _ _ _ at hcon
  rw [show l.toArray.size = n by simpa using hl] at hcon
  refine hcon.mono ?_
  rintro e w' ⟨rfl, d', m, os, hp, hs, rfl⟩
  obtain ⟨hps, _, hpp⟩ := hp
  have hds : d'.size = n := by rw [hps]; simpa using hl
  have hperm : d'.toList.Perm l := by
    have e1 : d'.extract 0 n = d' := by rw [← hds]; simp
    have e2 : l.toArray.extract 0 n = l.toArray := by rw [← hl]; simp
    rw [e1, e2] at hpp
    simpa using hpp
  refine ⟨rfl, d'.toList, hperm, fun i j hi hj hij => ?_, ?_, ?_⟩
  · have hi' : i < d'.size := by simpa using hi
    have hj' : j < d'.size := by simpa using hj
    have := hs i j (Nat.zero_le _) hij (by omega)
    unfold ltOf at this
    rw [decide_eq_false_iff_not, useCmp_lt, getElem!_pos d' j hj', getElem!_pos d' i hi'] at this
    simpa using this
  · unfold sortWorldK putRowK
    rw [show flatK usCells 4 d' = (uss d'.toList).toArray from by have := flat_us d'.toList; simpa using this]
    exact own_putId h (by rw [uss_len, uss_len, hperm.length_eq]) m os
  · unfold sortWorldK putRowK
    exact row_grownId w g m _ os
end Go.Proofs.YtbbbeldbhlehnaaGreat
end
/-! slices.Sort at a row of texts of the call's own, one that is none too. -/
section
set_option linter.unusedVariables false
set_option linter.unusedSimpArgs false
namespace Go.Proofs.YtbbbeldbhlehnaaGreat
open Go.RowKit Gno
set_option maxRecDepth 100000 in
theorem insStr_none (A : Option Addr) (cap : Nat) (w : World) :
    Calls Tryz.prog 87 #[.slice A 0 cap, .int .i64 0, .int .i64 0] w fun e w' => e = .returned (.tuple #[]) ∧ w = w' := by
  go_enter Tryz.func87, Tryz.ntmps87
  go_wp2
  refine wp_loop_rounds 1 ?_
  rw [rounds_succ]
  go_wp2
  go_end0
  exact ⟨rfl, rfl⟩
set_option maxRecDepth 100000 in
theorem pdqStr_none (A : Option Addr) (cap : Nat) (k : Int) (w : World) :
    Calls Tryz.prog 55 #[.slice A 0 cap, .int .i64 0, .int .i64 0, .int .i64 k] w fun e w' => e = .returned (.tuple #[]) ∧ w = w' := by
  have C := Lib.hid (insStr_none A cap)
  go_enter Tryz.func55, Tryz.ntmps55
  go_wp2
  refine wp_loop_rounds 1 ?_
  rw [rounds_succ]
  go_wp2_with (go_at_call 87; (with_reducible refine (C.out _).mono ?_); rintro e w1 ⟨rfl, rfl⟩)
  (try simp only [Exit.inBlock, Exit.then]); refine bodyPost_ret (results_none rfl _ _ _) rfl ?_
  exact ⟨rfl, rfl⟩
set_option maxRecDepth 100000 in
theorem sortStr_none (A : Option Addr) (cap : Nat) (w : World) :
    Calls Tryz.prog 19 #[.slice A 0 cap] w fun e w' => e = .returned (.tuple #[]) ∧ w = w' := by
  have C := Lib.hid (fun k => pdqStr_none A cap k)
  have L := Lib.hid (fun w => Go.Proofs.Tryz.bits_Len 0 w (by decide) (by decide))
  go_enter Tryz.func19, Tryz.ntmps19
  go_wp2_with (first | (go_at_call 56; (with_reducible refine (L.out _).mono ?_); rintro e w1 ⟨rfl, rfl⟩) | (go_at_call 55; (with_reducible refine (C.out _ _).mono ?_); rintro e w1 ⟨rfl, rfl⟩))
  go_end0
  exact ⟨rfl, rfl⟩
theorem sort_ownS {w : World} {B n : Nat} {v : Value} {l : List ByteArray} (h : w.ownsRow B 9 1 v n (strs l)) (hn : n ≤ 1000) :
    Calls Tryz.prog 19 #[v] w fun e w' => e = .returned (.tuple #[]) ∧ w'.ownsRow B 9 1 v n (strs (sortB l)) ∧ w.grownBy w' v.ownBlock := by
  have hl : l.length = n := by have := h.1; unfold strs at this; simpa using this
  rcases h.2 with ⟨rfl, rfl⟩ | ⟨g, cap, cur, rfl, _⟩
  · have e : l = [] := List.eq_nil_of_length_eq_zero hl
    subst e
    refine (sortStr_none none 0 w).mono ?_
    rintro e w' ⟨rfl, rfl⟩
    exact ⟨rfl, by simpa [sortB] using h, ⟨rfl, rfl, rfl, Nat.le_refl _, fun _ _ _ => rfl⟩⟩
  · refine (sort_strs h (by omega)).mono ?_
    rintro e w' ⟨rfl, h1, h2⟩
    exact ⟨rfl, h1, h2⟩
end Go.Proofs.YtbbbeldbhlehnaaGreat
end
