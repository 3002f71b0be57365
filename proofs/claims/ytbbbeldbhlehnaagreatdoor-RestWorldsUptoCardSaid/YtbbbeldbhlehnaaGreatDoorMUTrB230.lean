/- Parts of a proof, laid together. -/
import Derived.Test.YtbbbeldbhlehnaaGreatDoorShelf
import Derived.Test.YtbbbeldbhlehnaaGreatDoorShelfC
import Derived.RangeFuncRecord
import Derived.WalkSpells
import Derived.Deep.RegionHeld3
import Derived.Deep.QuietTactic
import Derived.BigQuiet
import Derived.Laws.EntriesVeiled
import Derived.StillTailTactics
import Derived.Test.YtbbbeldbhlehnaaGreatDoorMUTrB228
import Derived.Test.YtbbbeldbhlehnaaGreatDoorMUTrB21
import Derived.Test.YtbbbeldbhlehnaaGreatDoorMUTrB28
import Derived.Test.YtbbbeldbhlehnaaGreatDoorMUTrB226
import Derived.Test.YtbbbeldbhlehnaaGreatDoorMUTrB29
set_option linter.unusedSimpArgs false
set_option linter.unusedVariables false
section
namespace Go.Proofs.YtbbbeldbhlehnaaGreatDoor
open Go.RowKit Gno Go.Sort
theorem addP (g o j : Nat) : (⟨g, o, none⟩ : Addr).add j = ⟨g, o + j, none⟩ := by unfold Addr.add; split <;> simp_all
theorem cell_ofU {W : World} {b o : Nat} {cs : Array Value} {T : TypeId} {v : Value} (h : W.heap[b]? = some (.cells cs T)) (hv : cs[o]? = some v) : W.cell? ⟨b, o, none⟩ = some v := by simp [World.cell?, h, hv]
theorem own_blockR {w : World} {B g n cap sz : Nat} {e : TypeId} {xs : List Value} (h : w.ownsRow B e sz (.slice (some ⟨g, 0, none⟩) n cap) n xs) :
 ∃ cur, B ≤ g ∧ w.heap[g]? = some (.cells cur e (0, 0)) ∧ n ≤ cap ∧ cap ≤ maxLen ∧ cur.size = cap * sz ∧ cur.toList.take (n * sz) = xs := by
 rcases h.2 with ⟨e1, _⟩ | ⟨g', cap', cur, e1, hb, hg, hnc, hcm, hcs, ht⟩
 ·cases e1
 ·injection e1 with e1 _ e3
  injection e1 with e1
  injection e1 with e1 _ _
  subst e1
  subst e3
  exact ⟨cur, hb, hg, hnc, hcm, hcs, ht⟩
theorem own_holdsId {w : World} {B g n cap sz : Nat} {e : TypeId} {xs : List Value} (h : w.ownsRow B e sz (.slice (some ⟨g, 0, none⟩) n cap) n xs) : Holds id w g 0 xs.toArray := by
 intro j hj
 have hj' : j < xs.length := by simpa using hj
 have hc := h.cells (g := g) rfl j xs[j] (List.getElem?_eq_getElem hj')
 rw [addP] at hc
 obtain ⟨cur, _, hg, _⟩ := own_blockR h
 rw [getElem!_pos xs.toArray j hj]
 exact ⟨by simpa using hc, by simp [World.frozen?, hg]⟩
theorem own_putId {w : World} {B g n cap sz : Nat} {e : TypeId} {xs ys : List Value} (h : w.ownsRow B e sz (.slice (some ⟨g, 0, none⟩) n cap) n xs) (hy : ys.length = xs.length) (m : Nat) (os : Array Obj) :
 (grow (putRow id (Go.Sort.ahead w m) g 0 ys.toArray) os).ownsRow B e sz (.slice (some ⟨g, 0, none⟩) n cap) n ys := by
 have hz : xs.length = n * sz := h.1
 obtain ⟨cur, hb, hg, hnc, hcm, hcs, ht⟩ := own_blockR h
 have hle : n * sz ≤ cur.size := by rw [hcs]; exact Nat.mul_le_mul_right _ hnc
 refine ⟨by omega, .inr ⟨g, cap, putCells id 0 ys.toArray cur, rfl, hb, ?_, hnc, hcm, by unfold putCells; simpa using hcs, ?_⟩⟩
 ·have hgl := (Array.getElem?_eq_some_iff.1 hg).1
  simp only [grow, putRow, mapBlock, Go.Sort.ahead]
  rw [Array.getElem?_append_left (by simpa using hgl), Array.getElem?_modify, if_pos rfl, hg]
  rfl
 ·apply List.ext_getElem?
  intro j
  unfold putCells
  rw [List.getElem?_take]
  by_cases hj : j < n * sz
  ·have hjc : j < cur.size := by omega
   have hjy : j < ys.length := by omega
   rw [if_pos hj]
   simp only [Array.getElem?_toList, Array.getElem?_mapIdx]
   rw [Array.getElem?_eq_getElem hjc, List.getElem?_eq_getElem hjy]
   simp [hjy]
  ·rw [if_neg hj, List.getElem?_eq_none (by omega)]
theorem row_grownId (w : World) (g m : Nat) (ys : Array Value) (os : Array Obj) : w.grownBy (grow (putRow id (Go.Sort.ahead w m) g 0 ys) os) (some g) where
 os := rfl
 tape := rfl
 output := rfl
 size := by simp [grow, putRow, mapBlock, Go.Sort.ahead]
 block := fun k hk hne => by
  have hne : g ≠ k := fun e => hne (by rw [e])
  simp only [grow, putRow, mapBlock, Go.Sort.ahead]
  rw [Array.getElem?_append_left (by simpa using hk), Array.getElem?_modify, if_neg hne]
theorem putCells_map {α : Type} [Inhabited α] (enc : α → Value) (o : Nat) (d : Array α) (c : Array Value) : putCells enc o d c = putCells id o (d.map enc) c := by
 unfold putCells
 refine Array.ext (by simp) fun i h1 h2 => ?_
 simp only [Array.getElem_mapIdx, Array.size_map]
 split
 ·rename_i h
  have hi : i - o < d.size := by omega
  rw [getElem!_pos d _ hi, getElem!_pos (d.map enc) _ (by simpa using hi)]
  simp
 ·rfl
theorem putRow_map {α : Type} [Inhabited α] (enc : α → Value) (w : World) (b o : Nat) (d : Array α) : putRow enc w b o d = putRow id w b o (d.map enc) := by
 unfold putRow
 congr 1
 funext c
 exact putCells_map enc o d c
theorem holds_map {α : Type} [Inhabited α] {enc : α → Value} {w : World} {b o : Nat} {d : Array α} (h : Holds id w b o (d.map enc)) : Holds enc w b o d := by
 intro j hj
 have h1 := h j (by simpa using hj)
 rw [getElem!_pos d j hj]
 rw [getElem!_pos (d.map enc) j (by simpa using hj)] at h1
 simpa using h1
theorem strs_enc (l : List ByteArray) : ((l.map fun s => s.toList).toArray.map encStr) = (strs l).toArray := by
 simp only [strs, List.map_toArray, List.map_map]
 congr 1
 refine List.map_congr_left fun s _ => ?_
 show Value.string ⟨s.toList.toArray⟩ = Value.string s
 rw [ByteArray.toList_eq]
theorem sort_strs {w : World} {B g n cap : Nat} {l : List ByteArray} (h : w.ownsRow B 9 1 (.slice (some ⟨g, 0, none⟩) n cap) n (strs l)) (hn : n < 4611686018427387904) :
 Calls Tryz.prog 61 #[.slice (some ⟨g, 0, none⟩) n cap] w fun e w' => e = .returned (.tuple #[]) ∧ w'.ownsRow B 9 1 (.slice (some ⟨g, 0, none⟩) n cap) n (strs (sortB l)) ∧ w.grownBy w' (some g) := by
 have hl : (l.map fun s => s.toList).length = n := by have := h.1; unfold strs at this; simpa using this
 have hH : Holds encStr w g 0 (l.map fun s => s.toList).toArray := holds_map (by rw [strs_enc]; exact own_holdsId h)
 have := Go.Proofs.Tryz.slices_Sort_string g 0 cap (l.map fun s => s.toList) w hH (h.lt g rfl).2 (by omega)
 rw [hl, sortB_map] at this
 refine this.mono ?_
 rintro e w' ⟨rfl, m, os, rfl⟩
 rw [putRow_map, strs_enc]
 exact ⟨rfl, own_putId h (by unfold strs; rw [List.length_map, List.length_map, sortB_len]) m os, row_grownId w g m _ os⟩
theorem flat_us (l : List Us) : flatK usCells 4 l.toArray = (uss l).toArray := by
 refine ext_get! (by simp [uss_len]) fun t ht => ?_
 have ht' : t < l.length * 4 := by simpa using ht
 rw [get_flatK _ _ _ t (by simpa using ht')]
 have hi : t / 4 < l.length := by omega
 obtain ⟨x, hx⟩ : ∃ x, l[t / 4]? = some x := ⟨_, List.getElem?_eq_getElem hi⟩
 obtain ⟨g0, g1, g2, g3⟩ := uss_get l (t / 4) x hx
 have hxa : l.toArray[t / 4]! = x := by
  rw [getElem!_pos l.toArray (t / 4) (by simpa using hi)]
  have := (List.getElem?_eq_some_iff.1 hx).2
  simpa using this
 have key : ∀ {v : Value}, (uss l)[t]? = some v → (uss l).toArray[t]! = v := fun {v} h => by
  obtain ⟨h1, h2⟩ := List.getElem?_eq_some_iff.1 h
  rw [getElem!_pos (uss l).toArray t (by simpa using h1)]
  simpa using h2
 rw [hxa]
 have hm : t % 4 = 0 ∨ t % 4 = 1 ∨ t % 4 = 2 ∨ t % 4 = 3 := by omega
 rcases hm with hm | hm | hm | hm
 ·rw [hm, key (by rw [show t = t / 4 * 4 by omega]; exact g0)]; rfl
 ·rw [hm, key (by rw [show t = t / 4 * 4 + 1 by omega]; exact g1)]; rfl
 ·rw [hm, key (by rw [show t = t / 4 * 4 + 2 by omega]; exact g2)]; rfl
 ·rw [hm, key (by rw [show t = t / 4 * 4 + 3 by omega]; exact g3)]; rfl
end Go.Proofs.YtbbbeldbhlehnaaGreatDoor
end
section
namespace Go.Proofs.YtbbbeldbhlehnaaGreatDoor
open Go.RowKit Gno
theorem containsZone_any (g : Nat) (lb : Array Value) (eg : ∀ args w, (callFunc g args).run Tryz.prog w = .ok (.enter g args) w) (p : Zn → Bool) (A : Option Addr) (n cap : Nat) (l : List Zn) (w : World)
 (hR : ZonesAt w w.heap.size A n l) (hp : PredZone Tryz.prog g lb p l w) :
 Calls Tryz.prog 91 #[.slice A n cap, .func (.func g) #[] lb] w fun e w' => e = .returned (.bool (hasP p l)) ∧ Below w.heap.size w w' := by
 have C := Lib.hid (indexZone_any g lb eg p A n cap l w hR hp)
 clear hR hp eg
 go_enter Tryz.func91, Tryz.ntmps91
 go_wp2_with (go_at_call 68; (with_reducible refine C.out.mono ?_); rintro e w4 ⟨rfl, hb4⟩)
 go_ret
 exact ⟨ret_bool rfl, hb4⟩
theorem zoneIs_any (z : Zn) (u : ByteArray) (ub : Nat) (w : World) (hc : w.cell? ⟨ub, 0, none⟩ = some (.string u)) :
 Calls Tryz.prog 92 #[.agg #[.string z.name, .slice z.A z.n z.cap], .pointer (some ⟨ub, 0, none⟩)] w fun e w' => e = .returned (.bool (isZone u z)) ∧ Below w.heap.size w w' := by
 have hc2 : (w.alloc (.cells #[.string z.name, .slice z.A z.n z.cap] 54)).cell? ⟨ub, 0, none⟩ = some (.string u) := by rw [World.cell?_alloc_past _ _ _ (lt_of_cell' hc)]; exact hc
 cases hq : isZone u z
 ·have h1 : (z.name.toList == u.toList) = false := hq
  clear hq
  go_enter Tryz.func92, Tryz.ntmps92
  go_wp2
  go_ret
  exact ⟨rfl, (Below.refl _ _).alloc (Nat.le_refl _) _⟩
 ·have h1 : (z.name.toList == u.toList) = true := hq
  clear hq
  go_enter Tryz.func92, Tryz.ntmps92
  go_wp2
  go_ret
  exact ⟨rfl, (Below.refl _ _).alloc (Nat.le_refl _) _⟩
theorem zoneC_any (d : Dt) (u : Us) (db : Nat) (w : World) (hD : ZonesAt w w.heap.size d.zA d.zn d.zs) (hc : w.cell? ⟨db, 1, none⟩ = some (.slice d.zA d.zn d.zc)) :
 Calls Tryz.prog 90 #[.agg #[.string u.zone, .int .i64 u.fr, .int .i64 u.til, .string u.mt], .pointer (some ⟨db, 0, none⟩)] w fun e w' => e = .returned (.bool (!noZone d u)) ∧ Below w.heap.size w w' := by
 obtain ⟨w1, hw1⟩ : ∃ w1, w1 = w.alloc (.cells #[.string u.zone, .int .i64 u.fr, .int .i64 u.til, .string u.mt] 151) := ⟨_, rfl⟩
 have hb1 : Below w.heap.size w w1 := by rw [hw1]; exact (Below.refl _ _).alloc (Nat.le_refl _) _
 have hz1 : w1.heap.size = w.heap.size + 1 := by rw [hw1]; simp
 have hk : w1.heap[w.heap.size]? = some (.cells #[.string u.zone, .int .i64 u.fr, .int .i64 u.til, .string u.mt] 151 (0, 0)) := by rw [hw1]; exact World.alloc_heap_new w _
 have hc1 : w1.cell? ⟨db, 1, none⟩ = some (.slice d.zA d.zn d.zc) := (hb1.cell (lt_of_cell' hc)).trans hc
 have hZ : ZonesAt w1 w1.heap.size d.zA d.zn d.zs := SlAt.below keeps_zn (SlAt.below keeps_zn hD hb1 (Nat.le_refl _)) (Below.refl w1.heap.size _) hb1.size
 have C : Hid (Calls Tryz.prog 91 #[.slice d.zA d.zn d.zc, .func (.func 92) #[] #[.pointer (some ⟨w.heap.size, 0, none⟩)]] w1 fun e w' => e = .returned (.bool (!noZone d u)) ∧ Below w1.heap.size w1 w') := Lib.hid (by
  have h := containsZone_any 92 #[.pointer (some ⟨w.heap.size, 0, none⟩)] (enters_of Tryz.func92 (by kernel_rfl) rfl) (isZone u.zone) d.zA d.zn d.zc d.zs w1 hZ (fun W z hz hW => zoneIs_any z u.zone w.heap.size W (by
   rw [hW.cell (p := ⟨w.heap.size, 0, none⟩) (by show w.heap.size < w1.heap.size; omega)]
   simp [World.cell?, hk]))
  have e : hasP (isZone u.zone) d.zs = !noZone d u := by
   unfold hasP noZone zoneN
   rw [← decide_not]
   congr 1
   simp
  rw [e] at h
  exact h)
 have HB1 := Lib.hid hb1
 clear hZ hD hk hc hb1 hz1
 subst hw1
 go_enter Tryz.func90, Tryz.ntmps90
 go_wp2_with (go_at_call 91; (with_reducible refine C.out.mono ?_); rintro e w4 ⟨rfl, hb4⟩)
 go_ret
 exact ⟨rfl, HB1.out.trans (hb4.mono HB1.out.size)⟩
abbrev useV (u : Us) : Value := .agg #[.string u.zone, .int .i64 u.fr, .int .i64 u.til, .string u.mt]
theorem badMt_any (u : Us) (w : World) (hu : u.mt.size ≤ maxLen) :
 Calls Tryz.prog 94 #[.agg #[.string u.zone, .int .i64 u.fr, .int .i64 u.til, .string u.mt]] w fun e w' => e = .returned (.bool (badMt u)) ∧ Below w.heap.size w w' := by
 have C := Lib.hid (fun w => name_any u.mt w hu)
 have HB : Hid (Below w.heap.size w (w.alloc (.cells #[.string u.zone, .int .i64 u.fr, .int .i64 u.til, .string u.mt] 151))) := Lib.hid ((Below.refl _ _).alloc (Nat.le_refl _) _)
 clear hu
 go_enter Tryz.func94, Tryz.ntmps94
 go_wp2_with (go_at_call 43; (with_reducible refine (C.out _).mono ?_); rintro e w1 ⟨rfl, hb1⟩)
 go_ret
 exact ⟨ret_bool rfl, HB.out.trans (hb1.mono (by simp))⟩
theorem noZone_any (d : Dt) (u : Us) (db zb : Nat) (w : World) (hD : ZonesAt w w.heap.size d.zA d.zn d.zs) (hc : w.cell? ⟨db, 1, none⟩ = some (.slice d.zA d.zn d.zc)) (hz : w.cell? ⟨zb, 0, none⟩ = some (.func (.func 90) #[] #[.pointer (some ⟨db, 0, none⟩)])) :
 Calls Tryz.prog 95 #[.agg #[.string u.zone, .int .i64 u.fr, .int .i64 u.til, .string u.mt], .pointer (some ⟨zb, 0, none⟩)] w fun e w' => e = .returned (.bool (noZone d u)) ∧ Below w.heap.size w w' := by
 obtain ⟨w1, hw1⟩ : ∃ w1, w1 = w.alloc (.cells #[.string u.zone, .int .i64 u.fr, .int .i64 u.til, .string u.mt] 151) := ⟨_, rfl⟩
 have hb1 : Below w.heap.size w w1 := by rw [hw1]; exact (Below.refl _ _).alloc (Nat.le_refl _) _
 have hk : w1.heap[w.heap.size]? = some (.cells #[.string u.zone, .int .i64 u.fr, .int .i64 u.til, .string u.mt] 151 (0, 0)) := by rw [hw1]; exact World.alloc_heap_new w _
 have hc1 : w1.cell? ⟨db, 1, none⟩ = some (.slice d.zA d.zn d.zc) := (hb1.cell (lt_of_cell' hc)).trans hc
 have k0 : w1.cell? ⟨zb, 0, none⟩ = some (.func (.func 90) #[] #[.pointer (some ⟨db, 0, none⟩)]) := (hb1.cell (lt_of_cell' hz)).trans hz
 have hZ : ZonesAt w1 w1.heap.size d.zA d.zn d.zs := SlAt.below keeps_zn (SlAt.below keeps_zn hD hb1 (Nat.le_refl _)) (Below.refl w1.heap.size _) hb1.size
 have C := Lib.hid (zoneC_any d u db w1 hZ hc1)
 have eg : ∀ args w, (callFunc 90 args).run Tryz.prog w = .ok (.enter 90 args) w := enters_of Tryz.func90 (by kernel_rfl) rfl
 have HB1 := Lib.hid hb1
 have u0 : w1.cell? ⟨w.heap.size, 0, none⟩ = some (.string u.zone) := by simp [World.cell?, hk]
 have u1 : w1.cell? ⟨w.heap.size, 1, none⟩ = some (.int .i64 u.fr) := by simp [World.cell?, hk]
 have u2 : w1.cell? ⟨w.heap.size, 2, none⟩ = some (.int .i64 u.til) := by simp [World.cell?, hk]
 have u3 : w1.cell? ⟨w.heap.size, 3, none⟩ = some (.string u.mt) := by simp [World.cell?, hk]
 clear hZ hD hk hc hc1 hz hb1
 subst hw1
 go_enter Tryz.func95, Tryz.ntmps95
 go_wp2_with (go_at_fn 90; (with_reducible refine C.out.mono ?_); rintro e w4 ⟨rfl, hb4⟩)
 go_ret
 exact ⟨ret_bool (by simp), HB1.out.trans (hb4.mono HB1.out.size)⟩
theorem badUse_any (u : Us) (w : World) :
 Calls Tryz.prog 96 #[.agg #[.string u.zone, .int .i64 u.fr, .int .i64 u.til, .string u.mt]] w fun e w' => e = .returned (.bool (badUse u)) ∧ Below w.heap.size w w' := by
 have HB : Hid (Below w.heap.size w (w.alloc (.cells #[.string u.zone, .int .i64 u.fr, .int .i64 u.til, .string u.mt] 151))) := Lib.hid ((Below.refl _ _).alloc (Nat.le_refl _) _)
 by_cases h1 : u.fr < 0
 ·have d1 : decide (u.fr < 0) = true := decide_eq_true h1
  have e : badUse u = true := by unfold badUse; rw [d1]; rfl
  rw [e]
  clear e
  go_enter Tryz.func96, Tryz.ntmps96
  go_wp2
  go_ret
  exact ⟨rfl, HB.out⟩
 ·have d1 : decide (u.fr < 0) = false := decide_eq_false h1
  by_cases h2 : u.til ≤ u.fr
  ·have d2 : decide (u.til ≤ u.fr) = true := decide_eq_true h2
   have e : badUse u = true := by unfold badUse; rw [d1, d2]; rfl
   rw [e]
   clear e h1
   go_enter Tryz.func96, Tryz.ntmps96
   go_wp2
   go_ret
   exact ⟨rfl, HB.out⟩
  ·have d2 : decide (u.til ≤ u.fr) = false := decide_eq_false h2
   by_cases h3 : 1893456000 < u.til
   ·have d3 : decide ((1893456000 : Int) < u.til) = true := decide_eq_true h3
    have e : badUse u = true := by unfold badUse; rw [d1, d2, d3]; rfl
    rw [e]
    clear e h1 h2
    go_enter Tryz.func96, Tryz.ntmps96
    go_wp2
    go_ret
    exact ⟨rfl, HB.out⟩
   ·have d3 : decide ((1893456000 : Int) < u.til) = false := decide_eq_false h3
    have e : badUse u = false := by unfold badUse; rw [d1, d2, d3]; rfl
    rw [e]
    clear e h1 h2 h3
    go_enter Tryz.func96, Tryz.ntmps96
    go_wp2
    go_ret
    exact ⟨rfl, HB.out⟩
theorem uss_cells {w : World} {B n : Nat} {ad : Addr} {l : List Us} (h : UsesAt w B (some ad) n l) : ∀ j v, (uss l)[j]? = some v → w.cell? (ad.add j) = some v := by
 intro j v hj
 have hjl : j < l.length * 4 := by have := (List.getElem?_eq_some_iff.1 hj).1; rwa [uss_len] at this
 obtain ⟨b, o, hA, hbB, hc⟩ := h.2.2 (by rw [← h.1]; omega)
 injection hA with hA
 subst hA
 obtain ⟨x, hx⟩ : ∃ x, l[j / 4]? = some x := ⟨_, List.getElem?_eq_getElem (by omega)⟩
 obtain ⟨g0, g1, g2, g3⟩ := uss_get l (j / 4) x hx
 obtain ⟨⟨c0, c1, c2, c3⟩, _⟩ := hc _ x hx
 rw [addP]
 have hm : j = j / 4 * 4 ∨ j = j / 4 * 4 + 1 ∨ j = j / 4 * 4 + 2 ∨ j = j / 4 * 4 + 3 := by omega
 rcases hm with hm | hm | hm | hm
 ·rw [hm, g0] at hj; rw [hm, c0, hj]
 ·rw [hm, g1] at hj; rw [hm, show o + (j / 4 * 4 + 1) = o + j / 4 * 4 + 1 by omega, c1, hj]
 ·rw [hm, g2] at hj; rw [hm, show o + (j / 4 * 4 + 2) = o + j / 4 * 4 + 2 by omega, c2, hj]
 ·rw [hm, g3] at hj; rw [hm, show o + (j / 4 * 4 + 3) = o + j / 4 * 4 + 3 by omega, c3, hj]
set_option maxRecDepth 100000 in
set_option maxHeartbeats 4000000 in
theorem cloneUse_any (A : Option Addr) (n cap : Nat) (l : List Us) (w : World) (hR : UsesAt w w.heap.size A n l) (hn : n ≤ 1000) :
 Calls Tryz.prog 97 #[.slice A n cap] w fun e w' => ∃ v, e = .returned v ∧ w'.ownsRow w.heap.size 151 4 v n (uss l) ∧ Below w.heap.size w w' := by
 have hq := fun (w : World) (a : Option Addr) (n c n' c' : Nat) => Lib.run_eql_slice_nil (P := Tryz.prog) w 27 151 a n c n' c' Tryz.underlying27
 cases A with
 | none =>
   have hn0 : n = 0 := by
    rcases Nat.eq_zero_or_pos n with h | h
    ·exact h
    ·obtain ⟨b, o, hA, _⟩ := hR.2.2 h
     cases hA
   have hl : l = [] := List.eq_nil_of_length_eq_zero (by rw [hR.1]; exact hn0)
   subst hn0 hl
   clear hR
   go_enter Tryz.func97, Tryz.ntmps97
   go_wp2
   go_ret
   exact ⟨_, rfl, World.ownsRow_nil _ _ _ _, Below.refl _ _⟩
 | some ad =>
   have hal : Below w.heap.size w (w.alloc (.cells #[] 151)) := (Below.refl _ _).alloc (Nat.le_refl _) _
   have HOA : Hid ((w.alloc (.cells #[] 151)).ownsRow w.heap.size 151 4 (.slice (some ⟨w.heap.size, 0, none⟩) 0 0) 0 []) := Lib.hid ⟨rfl, .inr ⟨w.heap.size, 0, _, rfl, Nat.le_refl _, World.alloc_heap_new w _, Nat.le_refl _, by unfold maxLen; omega, rfl, rfl⟩⟩
   have HC := Lib.hid (uss_cells (SlAt.below keeps_us hR hal (Nat.le_refl _)))
   have HL : Hid ((uss l).length = n * 4) := Lib.hid (by rw [uss_len, hR.1])
   have H1 := Lib.hid (uss_one l)
   have HB := Lib.hid hal
   clear hR hal
   go_enter Tryz.func97, Tryz.ntmps97
   go_wp2_with (at_builtin; go_must (refine wpList_app2 rfl _ _ 27 rfl w.heap.size 151 (.agg #[.string ⟨#[]⟩, .int .i64 0, .int .i64 0, .string ⟨#[]⟩]) 4 48 Tryz.underlying27 infoUse rfl (by decide) _ 0 _ rfl HOA.out ad n cap (uss l) rfl HL.out HC.out H1.out (by unfold maxLen; omega) (by omega) (by simp) ?_); intro v' w4 hown4 hg4 hn4)
   go_ret
   refine ⟨_, rfl, by simpa using hown4, HB.out.grown hg4 (by simp) (fun k hk => (HOA.out.lt k hk).1)⟩
set_option maxRecDepth 100000 in
theorem insUse_none (A : Option Addr) (cap : Nat) (fv : Value) (w : World) :
 Calls Tryz.prog 213 #[.slice A 0 cap, .int .i64 0, .int .i64 0, fv] w fun e w' => e = .returned (.tuple #[]) ∧ w = w' := by
 go_enter Tryz.func213, Tryz.ntmps213
 go_wp2
 refine wp_loop_rounds 1 ?_
 rw [rounds_succ]
 go_wp2
 go_end0
 exact ⟨rfl, rfl⟩
set_option maxRecDepth 100000 in
theorem pdqUse_none (A : Option Addr) (cap : Nat) (k : Int) (fv : Value) (w : World) :
 Calls Tryz.prog 165 #[.slice A 0 cap, .int .i64 0, .int .i64 0, .int .i64 k, fv] w fun e w' => e = .returned (.tuple #[]) ∧ w = w' := by
 have C := Lib.hid (insUse_none A cap fv)
 go_enter Tryz.func165, Tryz.ntmps165
 go_wp2
 refine wp_loop_rounds 1 ?_
 rw [rounds_succ]
 go_wp2_with (go_at_call 213; (with_reducible refine (C.out _).mono ?_); rintro e w1 ⟨rfl, rfl⟩)
 (try simp only [Exit.inBlock, Exit.then]); refine bodyPost_ret (results_none rfl _ _ _) rfl ?_
 exact ⟨rfl, rfl⟩
set_option maxRecDepth 100000 in
theorem sortUse_none (A : Option Addr) (cap : Nat) (fv : Value) (w : World) :
 Calls Tryz.prog 98 #[.slice A 0 cap, fv] w fun e w' => e = .returned (.tuple #[]) ∧ w = w' := by
 have C := Lib.hid (fun k => pdqUse_none A cap k fv)
 have L := Lib.hid (fun w => Go.Proofs.Tryz.bits_Len 0 w (by decide) (by decide))
 go_enter Tryz.func98, Tryz.ntmps98
 go_wp2_with (first | (go_at_call 140; (with_reducible refine (L.out _).mono ?_); rintro e w1 ⟨rfl, rfl⟩) | (go_at_call 165; (with_reducible refine (C.out _ _).mono ?_); rintro e w1 ⟨rfl, rfl⟩))
 go_end0
 exact ⟨rfl, rfl⟩
end Go.Proofs.YtbbbeldbhlehnaaGreatDoor
end
section
namespace Go.Proofs.YtbbbeldbhlehnaaGreatDoor
open Go.RowKit Gno Go.Sort
theorem third_at (W : World) (p q : Obj) (cs : Array Value) (T : TypeId) (k : Nat) (u : Value) (h : cs[k]? = some u) : (((W.alloc p).alloc q).alloc (.cells cs T)).cell? ⟨W.heap.size + 1 + 1, k, none⟩ = some u := by
 have h9 := World.alloc_heap_new ((W.alloc p).alloc q) (.cells cs T)
 rw [show ((W.alloc p).alloc q).heap.size = W.heap.size + 1 + 1 by simp] at h9
 exact cell_ofU h9 h
set_option maxHeartbeats 4000000 in
theorem useCmp_any (x y : Us) (W : World) :
 Calls Tryz.prog 99 #[.agg #[.string x.zone, .int .i64 x.fr, .int .i64 x.til, .string x.mt], .agg #[.string y.zone, .int .i64 y.fr, .int .i64 y.til, .string y.mt]] W fun e w' => e = .returned (.int .i64 (useCmp x y)) ∧ ∃ q os', w' = grow (W.drewN q) os' := by
 have CS := Lib.hid cmpStr_any
 have CI := Lib.hid cmpInt_any
 have CO := Lib.hid or_any
 have EO := Lib.hid (useCmp_or x y)
 obtain ⟨a, ha⟩ : ∃ a, a = cmpB x.zone y.zone := ⟨_, rfl⟩
 obtain ⟨b, hb⟩ : ∃ b, b = cmpN x.fr y.fr := ⟨_, rfl⟩
 obtain ⟨c, hc⟩ : ∃ c, c = useCmp x y := ⟨_, rfl⟩
 have C1 : Hid (∀ w, Calls Tryz.prog 101 #[.string x.zone, .string y.zone] w fun e w' => e = .returned (.int .i64 a) ∧ w = w') := Lib.hid (by rw [ha]; exact cmpStr_any _ _)
 have C2 : Hid (∀ w, Calls Tryz.prog 102 #[.int .i64 x.fr, .int .i64 y.fr] w fun e w' => e = .returned (.int .i64 b) ∧ w = w') := Lib.hid (by rw [hb]; exact cmpInt_any _ _)
 have C3 : Hid (∀ w B, w.cell? ⟨B, 0, none⟩ = some (.int .i64 a) → w.cell? ⟨B, 1, none⟩ = some (.int .i64 b) → Calls Tryz.prog 100 #[.slice (some ⟨B, 0, none⟩) 2 2] w fun e w' => e = .returned (.int .i64 c) ∧ w = w') := Lib.hid (fun w B h0 h1 => by
  have := or_any B a b w h0 h1
  rwa [ha, hb, useCmp_or, ← hc] at this)
 rw [← hc]
 clear ha hb hc CS CI CO EO
 go_enter Tryz.func99, Tryz.ntmps99
 go_wp2_with fail
 go_region_held3 (fun w' => w'.cell? ⟨W.heap.size, 0, none⟩ = some (.string x.zone) ∧ w'.cell? ⟨W.heap.size, 1, none⟩ = some (.int .i64 x.fr) ∧ w'.cell? ⟨W.heap.size + 1, 0, none⟩ = some (.string y.zone) ∧ w'.cell? ⟨W.heap.size + 1, 1, none⟩ = some (.int .i64 y.fr)) (go_keep) ((first | (go_at_call 101; (with_reducible refine (C1.out _).mono ?_); rintro e w5 ⟨rfl, rfl⟩) | (go_at_call 102; (with_reducible refine (C2.out _).mono ?_); rintro e w5 ⟨rfl, rfl⟩) | (go_at_call 100; refine (C3.out _ _ (by first | exact third_at _ _ _ _ _ _ _ rfl | (simp; exact third_at _ _ _ _ _ _ _ rfl)) (by first | exact third_at _ _ _ _ _ _ _ rfl | (simp; exact third_at _ _ _ _ _ _ _ rfl))).mono ?_; rintro e w5 ⟨rfl, rfl⟩)))
 all_goals
  go_wp2
  go_ret
  exact ⟨rfl, 1, _, by rw [alloc_eq_grow, alloc_eq_grow, alloc_eq_grow, grow_grow, grow_grow]; rfl⟩
theorem sortUse_any {w : World} {B g n cap : Nat} {l : List Us} (h : w.ownsRow B 151 4 (.slice (some ⟨g, 0, none⟩) n cap) n (uss l)) (hn : n ≤ 12) :
 Calls Tryz.prog 98 #[.slice (some ⟨g, 0, none⟩) n cap, .func (.func 99) #[] #[]] w fun e w' => e = .returned (.tuple #[]) ∧ ∃ s : List Us, s.Perm l ∧ (∀ i j (hi : i < s.length) (hj : j < s.length), i < j → ¬ useLt s[j] s[i]) ∧ w'.ownsRow B 151 4 (.slice (some ⟨g, 0, none⟩) n cap) n (uss s) ∧ w.grownBy w' (some g) := by
 have hl : l.length = n := by have := h.1; rw [uss_len] at this; omega
 have hH : HoldsK usCells 4 w g 0 l.toArray := by unfold HoldsK; rw [flat_us]; exact own_holdsId h
 have hcon := AnyQ.slices_SortFunc_small_sorted Go.Proofs.Tryz.sortUse 4 Tryz.isAgg151 Tryz.sizeOf151 usCells (fun _ => rfl) (fun x v hv => by simp [usCells] at hv; rcases hv with rfl | rfl | rfl | rfl <;> rfl) useCmp 99 #[] use_swo g 0 cap l.toArray w
  (enters_of Tryz.func99 (by kernel_rfl) rfl) (fun _ _ _ _ x y => useCmp_any x y _) hH (h.lt g rfl).2 (by simpa [hl] using hn) (fun k W hk => (Go.Proofs.Tryz.bits_Len k W (by omega) (by omega)).mono fun _ _ ⟨he, hw⟩ => ⟨⟨_, he⟩, hw⟩)
 change Calls Tryz.prog 98 _ _ _ at hcon
 rw [show l.toArray.size = n by simpa using hl] at hcon
 refine hcon.mono ?_
 rintro e w' ⟨rfl, d', m, os, hp, hs, rfl⟩
 obtain ⟨hps, _, hpp⟩ := hp
 have hds : d'.size = n := by rw [hps]; simpa using hl
 have hperm : d'.toList.Perm l := by
  have e1 : d'.extract 0 n = d' := by rw [← hds]; simp
  have e2 : l.toArray.extract 0 n = l.toArray := by rw [← hl]; simp
  rw [e1, e2] at hpp
  simpa using hpp
 refine ⟨rfl, d'.toList, hperm, fun i j hi hj hij => ?_, ?_, ?_⟩
 ·have hi' : i < d'.size := by simpa using hi
  have hj' : j < d'.size := by simpa using hj
  have := hs i j (Nat.zero_le _) hij (by omega)
  unfold ltOf at this
  rw [decide_eq_false_iff_not, useCmp_lt, getElem!_pos d' j hj', getElem!_pos d' i hi'] at this
  simpa using this
 ·unfold sortWorldK putRowK
  rw [show flatK usCells 4 d' = (uss d'.toList).toArray from by have := flat_us d'.toList; simpa using this]
  exact own_putId h (by rw [uss_len, uss_len, hperm.length_eq]) m os
 ·unfold sortWorldK putRowK
  exact row_grownId w g m _ os
end Go.Proofs.YtbbbeldbhlehnaaGreatDoor
end
section
namespace Gno
open Go
theorem usesE_data {d : Dt} {l : List Us} (h : dataE d ≠ 0) : usesE d l = dataE d := by unfold usesE; rw [if_pos h]
theorem usesE_many {d : Dt} {l : List Us} (h : dataE d = 0) (h1 : 10 < l.length) : usesE d l = 2 := by unfold usesE; rw [if_neg (by simp [h]), if_pos h1]
theorem usesE_mt {d : Dt} {l : List Us} (h : dataE d = 0) (h1 : ¬ 10 < l.length) (h2 : hasP badMt l = true) : usesE d l = 5 := by unfold usesE; rw [if_neg (by simp [h]), if_neg h1, if_pos h2]
theorem usesE_zone {d : Dt} {l : List Us} (h : dataE d = 0) (h1 : ¬ 10 < l.length) (h2 : hasP badMt l = false) (h3 : hasP (noZone d) l = true) : usesE d l = 4 := by unfold usesE; rw [if_neg (by simp [h]), if_neg h1, if_neg (by simp [h2]), if_pos h3]
theorem usesE_use {d : Dt} {l : List Us} (h : dataE d = 0) (h1 : ¬ 10 < l.length) (h2 : hasP badMt l = false) (h3 : hasP (noZone d) l = false) (h4 : hasP badUse l = true) : usesE d l = 3 := by unfold usesE; rw [if_neg (by simp [h]), if_neg h1, if_neg (by simp [h2]), if_neg (by simp [h3]), if_pos h4]
theorem usesE_over {d : Dt} {l : List Us} (h : dataE d = 0) (h1 : ¬ 10 < l.length) (h2 : hasP badMt l = false) (h3 : hasP (noZone d) l = false) (h4 : hasP badUse l = false) : usesE d l = if overU l = true then 6 else 0 := by unfold usesE; rw [if_neg (by simp [h]), if_neg h1, if_neg (by simp [h2]), if_neg (by simp [h3]), if_neg (by simp [h4])]
theorem next_at {s : List Us} {j : Nat} {p u : Us} (hp : s[j]? = some p) : nextU s (j + 1) u = (same p.zone u.zone && decide (u.fr < p.til)) := by unfold nextU; simp only [hp]
end Gno
namespace Go.Proofs.YtbbbeldbhlehnaaGreatDoor
open Go.RowKit Gno
theorem ck_ctx {d : Dt} {A : Option Addr} {n : Nat} {l : List Us} {w w1 W : World} {fv : Value} {T : TypeId} (hD : DataAt w w.heap.size d) (hU : UsesAt w w.heap.size A n l)
 (h1 : Below (w.heap.size + 1) (w.alloc (Dobj d)) w1) (hb : Below (w1.heap.size + 1) (w1.alloc (.cells #[fv] T)) W) :
 Below w.heap.size w W ∧ DataAt W W.heap.size d ∧ UsesAt W W.heap.size A n l ∧ W.cell? ⟨w.heap.size, 1, none⟩ = some (.slice d.zA d.zn d.zc) ∧ W.cell? ⟨w1.heap.size, 0, none⟩ = some fv ∧ W.cell? ⟨w.heap.size, 0, none⟩ = some (.slice d.sA d.sn d.sc) ∧ W.cell? ⟨w.heap.size, 2, none⟩ = some (.slice d.lA d.ln d.lc) := by
 have hz := h1.size
 simp at hz
 have k1 : (w.alloc (Dobj d)).heap[w.heap.size]? = some (Dobj d) := World.alloc_heap_new w _
 have h2 : Below (w.heap.size + 1) (w.alloc (Dobj d)) W := (h1.alloc (by omega) _).trans (hb.mono (by omega))
 have k2 := (h2.block w.heap.size (by omega)).trans k1
 have k3 := (hb.block w1.heap.size (by omega)).trans (World.alloc_heap_new w1 _)
 have h3 : Below w.heap.size w W := ((Below.refl w.heap.size w).alloc (Nat.le_refl _) (Dobj d)).trans (h2.mono (by omega))
 unfold Dobj at k2
 exact ⟨h3, hD.next h3, hU.next h3, cell_ofU k2 rfl, cell_ofU k3 rfl, cell_ofU k2 rfl, cell_ofU k2 rfl⟩
set_option maxRecDepth 100000 in
set_option maxHeartbeats 8000000 in
theorem usesCk_data (d : Dt) (A : Option Addr) (n cap : Nat) (l : List Us) (w : World) (hD : DataAt w w.heap.size d) (hM : MaxAt w w.heap.size) (hU : UsesAt w w.heap.size A n l) (he : dataE d ≠ 0) :
 Calls Tryz.prog 48 #[d.val, .slice A n cap] w fun e w' => e = .returned (.int .i64 (usesE d l)) ∧ Below w.heap.size w w' := by
 have hmf : ∀ (fn : Fn) (first cap : Array Value) (w : World), (Instr.makeFunc fn first cap).run Tryz.prog w = .ok (.func fn first cap) w := fun _ _ _ _ => rfl
 have hnl : n ≤ 9223372036854775807 := hU.2.1
 have hlen : l.length = n := hU.1
 have HLE := Lib.hid hlen
 have CD : Hid (Calls Tryz.prog 53 #[.agg #[.slice d.sA d.sn d.sc, .slice d.zA d.zn d.zc, .slice d.lA d.ln d.lc]] (w.alloc (Dobj d)) fun e w' => e = .returned (.int .i64 (dataE d)) ∧ Below (w.heap.size + 1) (w.alloc (Dobj d)) w') := Lib.hid (by
  have hb1 : Below w.heap.size w (w.alloc (Dobj d)) := (Below.refl _ _).alloc (Nat.le_refl _) _
  have := check_any d (w.alloc (Dobj d)) (hD.next hb1) (hM.next hb1)
  have e9 : (w.alloc (Dobj d)).heap.size = w.heap.size + 1 := by simp
  rwa [e9] at this)
 have HE : Hid (usesE d l = dataE d) := Lib.hid (usesE_data he)
 obtain ⟨E, hE⟩ : ∃ E, E = dataE d := ⟨_, rfl⟩
 rw [← hE] at CD HE he
 have e1 : (E != 0) = true := by simpa using he
 have e2 : (E == 0) = false := by simpa using he
 clear hD hM hU he hE hlen
 unfold Dt.val
 go_enter Tryz.func48, Tryz.ntmps48
 go_wp2_with fail
 refine CD.out.mono ?_
 rintro e w1 ⟨rfl, hw1⟩
 have HW1 := Lib.hid hw1
 clear hw1
 go_wp2
 go_ret
 exact ⟨ret_int HE.out.symm, ((Below.refl w.heap.size w).alloc (Nat.le_refl _) _).trans (HW1.out.mono (by omega))⟩
set_option maxRecDepth 100000 in
set_option maxHeartbeats 8000000 in
theorem usesCk_many (d : Dt) (A : Option Addr) (n cap : Nat) (l : List Us) (w : World) (hD : DataAt w w.heap.size d) (hM : MaxAt w w.heap.size) (hU : UsesAt w w.heap.size A n l) (he : dataE d = 0) (h1 : 10 < n) :
 Calls Tryz.prog 48 #[d.val, .slice A n cap] w fun e w' => e = .returned (.int .i64 (usesE d l)) ∧ Below w.heap.size w w' := by
 have hmf : ∀ (fn : Fn) (first cap : Array Value) (w : World), (Instr.makeFunc fn first cap).run Tryz.prog w = .ok (.func fn first cap) w := fun _ _ _ _ => rfl
 have hnl : n ≤ 9223372036854775807 := hU.2.1
 have hlen : l.length = n := hU.1
 have HLE := Lib.hid hlen
 have CD : Hid (Calls Tryz.prog 53 #[.agg #[.slice d.sA d.sn d.sc, .slice d.zA d.zn d.zc, .slice d.lA d.ln d.lc]] (w.alloc (Dobj d)) fun e w' => e = .returned (.int .i64 0) ∧ Below (w.heap.size + 1) (w.alloc (Dobj d)) w') := Lib.hid (by
  have hb1 : Below w.heap.size w (w.alloc (Dobj d)) := (Below.refl _ _).alloc (Nat.le_refl _) _
  have := check_any d (w.alloc (Dobj d)) (hD.next hb1) (hM.next hb1)
  rw [he] at this
  have e9 : (w.alloc (Dobj d)).heap.size = w.heap.size + 1 := by simp
  rwa [e9] at this)
 have HE : Hid (usesE d l = 2) := Lib.hid (usesE_many he (by omega))
 have d10 : decide ((10 : Int) < (n : Int)) = true := decide_eq_true (by omega)
 clear hD hM hU he h1 hlen
 unfold Dt.val
 go_enter Tryz.func48, Tryz.ntmps48
 go_wp2_with fail
 refine CD.out.mono ?_
 rintro e w1 ⟨rfl, hw1⟩
 have HW1 := Lib.hid hw1
 have hx : Below (w1.heap.size + 1) (w1.alloc (.cells #[.func (.func 90) #[] #[.pointer (some ⟨w.heap.size, 0, none⟩)]] 153)) (w1.alloc (.cells #[.func (.func 90) #[] #[.pointer (some ⟨w.heap.size, 0, none⟩)]] 153)) := Below.refl _ _
 have HX := Lib.hid hx
 clear hw1 hx
 go_wp2_with fail
 go_ret
 exact ⟨ret_int HE.out.symm, ((Below.refl w.heap.size w).alloc (Nat.le_refl _) _).trans ((HW1.out.alloc (by have := HW1.out.size; simpa using this) _).mono (by omega))⟩
set_option maxRecDepth 100000 in
set_option maxHeartbeats 8000000 in
theorem usesCk_mt (d : Dt) (A : Option Addr) (n cap : Nat) (l : List Us) (w : World) (hD : DataAt w w.heap.size d) (hM : MaxAt w w.heap.size) (hU : UsesAt w w.heap.size A n l) (he : dataE d = 0) (h1 : ¬ 10 < n) (h2 : hasP badMt l = true) :
 Calls Tryz.prog 48 #[d.val, .slice A n cap] w fun e w' => e = .returned (.int .i64 (usesE d l)) ∧ Below w.heap.size w w' := by
 have hmf : ∀ (fn : Fn) (first cap : Array Value) (w : World), (Instr.makeFunc fn first cap).run Tryz.prog w = .ok (.func fn first cap) w := fun _ _ _ _ => rfl
 have hnl : n ≤ 9223372036854775807 := hU.2.1
 have hlen : l.length = n := hU.1
 have HLE := Lib.hid hlen
 have CD : Hid (Calls Tryz.prog 53 #[.agg #[.slice d.sA d.sn d.sc, .slice d.zA d.zn d.zc, .slice d.lA d.ln d.lc]] (w.alloc (Dobj d)) fun e w' => e = .returned (.int .i64 0) ∧ Below (w.heap.size + 1) (w.alloc (Dobj d)) w') := Lib.hid (by
  have hb1 : Below w.heap.size w (w.alloc (Dobj d)) := (Below.refl _ _).alloc (Nat.le_refl _) _
  have := check_any d (w.alloc (Dobj d)) (hD.next hb1) (hM.next hb1)
  rw [he] at this
  have e9 : (w.alloc (Dobj d)).heap.size = w.heap.size + 1 := by simp
  rwa [e9] at this)
 have HE : Hid (usesE d l = 5) := Lib.hid (usesE_mt he (by omega) h2)
 have d10 : decide ((10 : Int) < (n : Int)) = false := decide_eq_false (by omega)
 have CX := Lib.hid (fun w1 W fv T h1 hb => ck_ctx (d := d) (A := A) (n := n) (l := l) (w := w) (w1 := w1) (W := W) (fv := fv) (T := T) hD hU h1 hb)
 have HSZ : Hid (∀ u ∈ l, u.mt.size ≤ maxLen) := Lib.hid (fun u hu => by
  obtain ⟨i, hi⟩ := List.getElem?_of_mem hu
  obtain ⟨_, _, q, _, _, hq, _, hq2, _⟩ := uses_get hU (i := i) (by rw [← hlen]; exact (List.getElem?_eq_some_iff.1 hi).1)
  rw [hi] at hq
  injection hq with hq
  rw [hq]; exact hq2)
 have C1 : Hid (∀ w1 W, Below (w.heap.size + 1) (w.alloc (Dobj d)) w1 → Below (w1.heap.size + 1) (w1.alloc (.cells #[.func (.func 90) #[] #[.pointer (some ⟨w.heap.size, 0, none⟩)]] 153)) W → Calls Tryz.prog 93 #[.slice A n cap, .func (.func 94) #[] #[]] W fun e w' => e = .returned (.bool true) ∧ Below W.heap.size W w') := Lib.hid (fun w1 W hw1 hb => by
  have := containsUse_any 94 #[] (enters_of Tryz.func94 (by kernel_rfl) rfl) badMt A n cap l W (CX.out w1 W _ _ hw1 hb).2.2.1 (fun W2 u hu _ => badMt_any u W2 (HSZ.out u hu))
  rwa [h2] at this)
 clear hD hM hU he h1 h2 hlen
 unfold Dt.val
 go_enter Tryz.func48, Tryz.ntmps48
 go_wp2_with fail
 refine CD.out.mono ?_
 rintro e w1 ⟨rfl, hw1⟩
 have HW1 := Lib.hid hw1
 have hx : Below (w1.heap.size + 1) (w1.alloc (.cells #[.func (.func 90) #[] #[.pointer (some ⟨w.heap.size, 0, none⟩)]] 153)) (w1.alloc (.cells #[.func (.func 90) #[] #[.pointer (some ⟨w.heap.size, 0, none⟩)]] 153)) := Below.refl _ _
 have HX := Lib.hid hx
 clear hw1 hx
 go_wp2_with fail
 refine (C1.out _ _ HW1.out HX.out).mono ?_
 rintro e v1 ⟨rfl, hv1⟩
 replace HX := Lib.hid (HX.out.trans (hv1.mono (by have h9 := HX.out.size; first | omega | (simp at h9; omega) | simp)))
 clear hv1
 go_wp2_with fail
 go_ret
 exact ⟨ret_int HE.out.symm, (CX.out _ _ _ _ HW1.out HX.out).1⟩
set_option maxRecDepth 100000 in
set_option maxHeartbeats 8000000 in
theorem usesCk_zone (d : Dt) (A : Option Addr) (n cap : Nat) (l : List Us) (w : World) (hD : DataAt w w.heap.size d) (hM : MaxAt w w.heap.size) (hU : UsesAt w w.heap.size A n l) (he : dataE d = 0) (h1 : ¬ 10 < n) (h2 : hasP badMt l = false) (h3 : hasP (noZone d) l = true) :
 Calls Tryz.prog 48 #[d.val, .slice A n cap] w fun e w' => e = .returned (.int .i64 (usesE d l)) ∧ Below w.heap.size w w' := by
 have hmf : ∀ (fn : Fn) (first cap : Array Value) (w : World), (Instr.makeFunc fn first cap).run Tryz.prog w = .ok (.func fn first cap) w := fun _ _ _ _ => rfl
 have hnl : n ≤ 9223372036854775807 := hU.2.1
 have hlen : l.length = n := hU.1
 have HLE := Lib.hid hlen
 have CD : Hid (Calls Tryz.prog 53 #[.agg #[.slice d.sA d.sn d.sc, .slice d.zA d.zn d.zc, .slice d.lA d.ln d.lc]] (w.alloc (Dobj d)) fun e w' => e = .returned (.int .i64 0) ∧ Below (w.heap.size + 1) (w.alloc (Dobj d)) w') := Lib.hid (by
  have hb1 : Below w.heap.size w (w.alloc (Dobj d)) := (Below.refl _ _).alloc (Nat.le_refl _) _
  have := check_any d (w.alloc (Dobj d)) (hD.next hb1) (hM.next hb1)
  rw [he] at this
  have e9 : (w.alloc (Dobj d)).heap.size = w.heap.size + 1 := by simp
  rwa [e9] at this)
 have HE : Hid (usesE d l = 4) := Lib.hid (usesE_zone he (by omega) h2 h3)
 have d10 : decide ((10 : Int) < (n : Int)) = false := decide_eq_false (by omega)
 have CX := Lib.hid (fun w1 W fv T h1 hb => ck_ctx (d := d) (A := A) (n := n) (l := l) (w := w) (w1 := w1) (W := W) (fv := fv) (T := T) hD hU h1 hb)
 have HSZ : Hid (∀ u ∈ l, u.mt.size ≤ maxLen) := Lib.hid (fun u hu => by
  obtain ⟨i, hi⟩ := List.getElem?_of_mem hu
  obtain ⟨_, _, q, _, _, hq, _, hq2, _⟩ := uses_get hU (i := i) (by rw [← hlen]; exact (List.getElem?_eq_some_iff.1 hi).1)
  rw [hi] at hq
  injection hq with hq
  rw [hq]; exact hq2)
 have C1 : Hid (∀ w1 W, Below (w.heap.size + 1) (w.alloc (Dobj d)) w1 → Below (w1.heap.size + 1) (w1.alloc (.cells #[.func (.func 90) #[] #[.pointer (some ⟨w.heap.size, 0, none⟩)]] 153)) W → Calls Tryz.prog 93 #[.slice A n cap, .func (.func 94) #[] #[]] W fun e w' => e = .returned (.bool false) ∧ Below W.heap.size W w') := Lib.hid (fun w1 W hw1 hb => by
  have := containsUse_any 94 #[] (enters_of Tryz.func94 (by kernel_rfl) rfl) badMt A n cap l W (CX.out w1 W _ _ hw1 hb).2.2.1 (fun W2 u hu _ => badMt_any u W2 (HSZ.out u hu))
  rwa [h2] at this)
 have C2 : Hid (∀ w1 W, Below (w.heap.size + 1) (w.alloc (Dobj d)) w1 → Below (w1.heap.size + 1) (w1.alloc (.cells #[.func (.func 90) #[] #[.pointer (some ⟨w.heap.size, 0, none⟩)]] 153)) W → Calls Tryz.prog 93 #[.slice A n cap, .func (.func 95) #[] #[.pointer (some ⟨w1.heap.size, 0, none⟩)]] W fun e w' => e = .returned (.bool true) ∧ Below W.heap.size W w') := Lib.hid (fun w1 W hw1 hb => by
  have := containsUse_any 95 #[.pointer (some ⟨w1.heap.size, 0, none⟩)] (enters_of Tryz.func95 (by kernel_rfl) rfl) (noZone d) A n cap l W (CX.out w1 W _ _ hw1 hb).2.2.1 (fun W2 u hu hb2 => by
   have hb3 := CX.out w1 W2 _ _ hw1 (hb.trans (hb2.mono (by have := hb.size; simpa using this)))
   exact noZone_any d u w.heap.size w1.heap.size W2 hb3.2.1.2.1 hb3.2.2.2.1 hb3.2.2.2.2.1)
  rwa [h3] at this)
 clear hD hM hU he h1 h2 h3 hlen
 unfold Dt.val
 go_enter Tryz.func48, Tryz.ntmps48
 go_wp2_with fail
 refine CD.out.mono ?_
 rintro e w1 ⟨rfl, hw1⟩
 have HW1 := Lib.hid hw1
 have hx : Below (w1.heap.size + 1) (w1.alloc (.cells #[.func (.func 90) #[] #[.pointer (some ⟨w.heap.size, 0, none⟩)]] 153)) (w1.alloc (.cells #[.func (.func 90) #[] #[.pointer (some ⟨w.heap.size, 0, none⟩)]] 153)) := Below.refl _ _
 have HX := Lib.hid hx
 clear hw1 hx
 go_wp2_with fail
 refine (C1.out _ _ HW1.out HX.out).mono ?_
 rintro e v1 ⟨rfl, hv1⟩
 replace HX := Lib.hid (HX.out.trans (hv1.mono (by have h9 := HX.out.size; first | omega | (simp at h9; omega) | simp)))
 clear hv1
 go_wp2_with fail
 refine (C2.out _ _ HW1.out HX.out).mono ?_
 rintro e v2 ⟨rfl, hv2⟩
 replace HX := Lib.hid (HX.out.trans (hv2.mono (by have h9 := HX.out.size; first | omega | (simp at h9; omega) | simp)))
 clear hv2
 go_wp2_with fail
 go_ret
 exact ⟨ret_int HE.out.symm, (CX.out _ _ _ _ HW1.out HX.out).1⟩
set_option maxRecDepth 100000 in
set_option maxHeartbeats 8000000 in
theorem usesCk_use (d : Dt) (A : Option Addr) (n cap : Nat) (l : List Us) (w : World) (hD : DataAt w w.heap.size d) (hM : MaxAt w w.heap.size) (hU : UsesAt w w.heap.size A n l) (he : dataE d = 0) (h1 : ¬ 10 < n) (h2 : hasP badMt l = false) (h3 : hasP (noZone d) l = false) (h4 : hasP badUse l = true) :
 Calls Tryz.prog 48 #[d.val, .slice A n cap] w fun e w' => e = .returned (.int .i64 (usesE d l)) ∧ Below w.heap.size w w' := by
 have hmf : ∀ (fn : Fn) (first cap : Array Value) (w : World), (Instr.makeFunc fn first cap).run Tryz.prog w = .ok (.func fn first cap) w := fun _ _ _ _ => rfl
 have hnl : n ≤ 9223372036854775807 := hU.2.1
 have hlen : l.length = n := hU.1
 have HLE := Lib.hid hlen
 have CD : Hid (Calls Tryz.prog 53 #[.agg #[.slice d.sA d.sn d.sc, .slice d.zA d.zn d.zc, .slice d.lA d.ln d.lc]] (w.alloc (Dobj d)) fun e w' => e = .returned (.int .i64 0) ∧ Below (w.heap.size + 1) (w.alloc (Dobj d)) w') := Lib.hid (by
  have hb1 : Below w.heap.size w (w.alloc (Dobj d)) := (Below.refl _ _).alloc (Nat.le_refl _) _
  have := check_any d (w.alloc (Dobj d)) (hD.next hb1) (hM.next hb1)
  rw [he] at this
  have e9 : (w.alloc (Dobj d)).heap.size = w.heap.size + 1 := by simp
  rwa [e9] at this)
 have HE : Hid (usesE d l = 3) := Lib.hid (usesE_use he (by omega) h2 h3 h4)
 have d10 : decide ((10 : Int) < (n : Int)) = false := decide_eq_false (by omega)
 have CX := Lib.hid (fun w1 W fv T h1 hb => ck_ctx (d := d) (A := A) (n := n) (l := l) (w := w) (w1 := w1) (W := W) (fv := fv) (T := T) hD hU h1 hb)
 have HSZ : Hid (∀ u ∈ l, u.mt.size ≤ maxLen) := Lib.hid (fun u hu => by
  obtain ⟨i, hi⟩ := List.getElem?_of_mem hu
  obtain ⟨_, _, q, _, _, hq, _, hq2, _⟩ := uses_get hU (i := i) (by rw [← hlen]; exact (List.getElem?_eq_some_iff.1 hi).1)
  rw [hi] at hq
  injection hq with hq
  rw [hq]; exact hq2)
 have C1 : Hid (∀ w1 W, Below (w.heap.size + 1) (w.alloc (Dobj d)) w1 → Below (w1.heap.size + 1) (w1.alloc (.cells #[.func (.func 90) #[] #[.pointer (some ⟨w.heap.size, 0, none⟩)]] 153)) W → Calls Tryz.prog 93 #[.slice A n cap, .func (.func 94) #[] #[]] W fun e w' => e = .returned (.bool false) ∧ Below W.heap.size W w') := Lib.hid (fun w1 W hw1 hb => by
  have := containsUse_any 94 #[] (enters_of Tryz.func94 (by kernel_rfl) rfl) badMt A n cap l W (CX.out w1 W _ _ hw1 hb).2.2.1 (fun W2 u hu _ => badMt_any u W2 (HSZ.out u hu))
  rwa [h2] at this)
 have C2 : Hid (∀ w1 W, Below (w.heap.size + 1) (w.alloc (Dobj d)) w1 → Below (w1.heap.size + 1) (w1.alloc (.cells #[.func (.func 90) #[] #[.pointer (some ⟨w.heap.size, 0, none⟩)]] 153)) W → Calls Tryz.prog 93 #[.slice A n cap, .func (.func 95) #[] #[.pointer (some ⟨w1.heap.size, 0, none⟩)]] W fun e w' => e = .returned (.bool false) ∧ Below W.heap.size W w') := Lib.hid (fun w1 W hw1 hb => by
  have := containsUse_any 95 #[.pointer (some ⟨w1.heap.size, 0, none⟩)] (enters_of Tryz.func95 (by kernel_rfl) rfl) (noZone d) A n cap l W (CX.out w1 W _ _ hw1 hb).2.2.1 (fun W2 u hu hb2 => by
   have hb3 := CX.out w1 W2 _ _ hw1 (hb.trans (hb2.mono (by have := hb.size; simpa using this)))
   exact noZone_any d u w.heap.size w1.heap.size W2 hb3.2.1.2.1 hb3.2.2.2.1 hb3.2.2.2.2.1)
  rwa [h3] at this)
 have C3 : Hid (∀ w1 W, Below (w.heap.size + 1) (w.alloc (Dobj d)) w1 → Below (w1.heap.size + 1) (w1.alloc (.cells #[.func (.func 90) #[] #[.pointer (some ⟨w.heap.size, 0, none⟩)]] 153)) W → Calls Tryz.prog 93 #[.slice A n cap, .func (.func 96) #[] #[]] W fun e w' => e = .returned (.bool true) ∧ Below W.heap.size W w') := Lib.hid (fun w1 W hw1 hb => by
  have := containsUse_any 96 #[] (enters_of Tryz.func96 (by kernel_rfl) rfl) badUse A n cap l W (CX.out w1 W _ _ hw1 hb).2.2.1 (fun W2 u hu _ => badUse_any u W2)
  rwa [h4] at this)
 clear hD hM hU he h1 h2 h3 h4 hlen
 unfold Dt.val
 go_enter Tryz.func48, Tryz.ntmps48
 go_wp2_with fail
 refine CD.out.mono ?_
 rintro e w1 ⟨rfl, hw1⟩
 have HW1 := Lib.hid hw1
 have hx : Below (w1.heap.size + 1) (w1.alloc (.cells #[.func (.func 90) #[] #[.pointer (some ⟨w.heap.size, 0, none⟩)]] 153)) (w1.alloc (.cells #[.func (.func 90) #[] #[.pointer (some ⟨w.heap.size, 0, none⟩)]] 153)) := Below.refl _ _
 have HX := Lib.hid hx
 clear hw1 hx
 go_wp2_with fail
 refine (C1.out _ _ HW1.out HX.out).mono ?_
 rintro e v1 ⟨rfl, hv1⟩
 replace HX := Lib.hid (HX.out.trans (hv1.mono (by have h9 := HX.out.size; first | omega | (simp at h9; omega) | simp)))
 clear hv1
 go_wp2_with fail
 refine (C2.out _ _ HW1.out HX.out).mono ?_
 rintro e v2 ⟨rfl, hv2⟩
 replace HX := Lib.hid (HX.out.trans (hv2.mono (by have h9 := HX.out.size; first | omega | (simp at h9; omega) | simp)))
 clear hv2
 go_wp2_with fail
 refine (C3.out _ _ HW1.out HX.out).mono ?_
 rintro e v3 ⟨rfl, hv3⟩
 replace HX := Lib.hid (HX.out.trans (hv3.mono (by have h9 := HX.out.size; first | omega | (simp at h9; omega) | simp)))
 clear hv3
 go_wp2_with fail
 go_ret
 exact ⟨ret_int HE.out.symm, (CX.out _ _ _ _ HW1.out HX.out).1⟩
set_option maxRecDepth 100000 in
set_option maxHeartbeats 8000000 in
theorem usesCk_rest (d : Dt) (A : Option Addr) (n cap : Nat) (l : List Us) (w : World) (hD : DataAt w w.heap.size d) (hM : MaxAt w w.heap.size) (hU : UsesAt w w.heap.size A n l) (he : dataE d = 0) (h1 : ¬ 10 < n) (h2 : hasP badMt l = false) (h3 : hasP (noZone d) l = false) (h4 : hasP badUse l = false) :
 Calls Tryz.prog 48 #[d.val, .slice A n cap] w fun e w' => e = .returned (.int .i64 (usesE d l)) ∧ Below w.heap.size w w' := by
 have hmf : ∀ (fn : Fn) (first cap : Array Value) (w : World), (Instr.makeFunc fn first cap).run Tryz.prog w = .ok (.func fn first cap) w := fun _ _ _ _ => rfl
 have hnl : n ≤ 9223372036854775807 := hU.2.1
 have hlen : l.length = n := hU.1
 have HLE := Lib.hid hlen
 have CD : Hid (Calls Tryz.prog 53 #[.agg #[.slice d.sA d.sn d.sc, .slice d.zA d.zn d.zc, .slice d.lA d.ln d.lc]] (w.alloc (Dobj d)) fun e w' => e = .returned (.int .i64 0) ∧ Below (w.heap.size + 1) (w.alloc (Dobj d)) w') := Lib.hid (by
  have hb1 : Below w.heap.size w (w.alloc (Dobj d)) := (Below.refl _ _).alloc (Nat.le_refl _) _
  have := check_any d (w.alloc (Dobj d)) (hD.next hb1) (hM.next hb1)
  rw [he] at this
  have e9 : (w.alloc (Dobj d)).heap.size = w.heap.size + 1 := by simp
  rwa [e9] at this)
 have HE : Hid (usesE d l = if overU l = true then 6 else 0) := Lib.hid (usesE_over he (by omega) h2 h3 h4)
 have HB4 : Hid (hasP badUse l = false) := Lib.hid h4
 have d10 : decide ((10 : Int) < (n : Int)) = false := decide_eq_false (by omega)
 have CX := Lib.hid (fun w1 W fv T h1 hb => ck_ctx (d := d) (A := A) (n := n) (l := l) (w := w) (w1 := w1) (W := W) (fv := fv) (T := T) hD hU h1 hb)
 have HSZ : Hid (∀ u ∈ l, u.mt.size ≤ maxLen) := Lib.hid (fun u hu => by
  obtain ⟨i, hi⟩ := List.getElem?_of_mem hu
  obtain ⟨_, _, q, _, _, hq, _, hq2, _⟩ := uses_get hU (i := i) (by rw [← hlen]; exact (List.getElem?_eq_some_iff.1 hi).1)
  rw [hi] at hq
  injection hq with hq
  rw [hq]; exact hq2)
 have C1 : Hid (∀ w1 W, Below (w.heap.size + 1) (w.alloc (Dobj d)) w1 → Below (w1.heap.size + 1) (w1.alloc (.cells #[.func (.func 90) #[] #[.pointer (some ⟨w.heap.size, 0, none⟩)]] 153)) W → Calls Tryz.prog 93 #[.slice A n cap, .func (.func 94) #[] #[]] W fun e w' => e = .returned (.bool false) ∧ Below W.heap.size W w') := Lib.hid (fun w1 W hw1 hb => by
  have := containsUse_any 94 #[] (enters_of Tryz.func94 (by kernel_rfl) rfl) badMt A n cap l W (CX.out w1 W _ _ hw1 hb).2.2.1 (fun W2 u hu _ => badMt_any u W2 (HSZ.out u hu))
  rwa [h2] at this)
 have C2 : Hid (∀ w1 W, Below (w.heap.size + 1) (w.alloc (Dobj d)) w1 → Below (w1.heap.size + 1) (w1.alloc (.cells #[.func (.func 90) #[] #[.pointer (some ⟨w.heap.size, 0, none⟩)]] 153)) W → Calls Tryz.prog 93 #[.slice A n cap, .func (.func 95) #[] #[.pointer (some ⟨w1.heap.size, 0, none⟩)]] W fun e w' => e = .returned (.bool false) ∧ Below W.heap.size W w') := Lib.hid (fun w1 W hw1 hb => by
  have := containsUse_any 95 #[.pointer (some ⟨w1.heap.size, 0, none⟩)] (enters_of Tryz.func95 (by kernel_rfl) rfl) (noZone d) A n cap l W (CX.out w1 W _ _ hw1 hb).2.2.1 (fun W2 u hu hb2 => by
   have hb3 := CX.out w1 W2 _ _ hw1 (hb.trans (hb2.mono (by have := hb.size; simpa using this)))
   exact noZone_any d u w.heap.size w1.heap.size W2 hb3.2.1.2.1 hb3.2.2.2.1 hb3.2.2.2.2.1)
  rwa [h3] at this)
 have C3 : Hid (∀ w1 W, Below (w.heap.size + 1) (w.alloc (Dobj d)) w1 → Below (w1.heap.size + 1) (w1.alloc (.cells #[.func (.func 90) #[] #[.pointer (some ⟨w.heap.size, 0, none⟩)]] 153)) W → Calls Tryz.prog 93 #[.slice A n cap, .func (.func 96) #[] #[]] W fun e w' => e = .returned (.bool false) ∧ Below W.heap.size W w') := Lib.hid (fun w1 W hw1 hb => by
  have := containsUse_any 96 #[] (enters_of Tryz.func96 (by kernel_rfl) rfl) badUse A n cap l W (CX.out w1 W _ _ hw1 hb).2.2.1 (fun W2 u hu _ => badUse_any u W2)
  rwa [h4] at this)
 have CC : Hid (∀ w1 W, Below (w.heap.size + 1) (w.alloc (Dobj d)) w1 → Below (w1.heap.size + 1) (w1.alloc (.cells #[.func (.func 90) #[] #[.pointer (some ⟨w.heap.size, 0, none⟩)]] 153)) W → Calls Tryz.prog 97 #[.slice A n cap] W fun e w' => ∃ v, e = .returned v ∧ w'.ownsRow W.heap.size 151 4 v n (uss l) ∧ Below W.heap.size W w') := Lib.hid (fun w1 W hw1 hb => cloneUse_any A n cap l W (CX.out w1 W _ _ hw1 hb).2.2.1 (by omega))
 clear hD hM hU he h2 h3 h4 hlen
 unfold Dt.val
 go_enter Tryz.func48, Tryz.ntmps48
 go_wp2_with fail
 refine CD.out.mono ?_
 rintro e w1 ⟨rfl, hw1⟩
 have HW1 := Lib.hid hw1
 have hx : Below (w1.heap.size + 1) (w1.alloc (.cells #[.func (.func 90) #[] #[.pointer (some ⟨w.heap.size, 0, none⟩)]] 153)) (w1.alloc (.cells #[.func (.func 90) #[] #[.pointer (some ⟨w.heap.size, 0, none⟩)]] 153)) := Below.refl _ _
 have HX := Lib.hid hx
 clear hw1 hx
 go_wp2_with fail
 refine (C1.out _ _ HW1.out HX.out).mono ?_
 rintro e v1 ⟨rfl, hv1⟩
 replace HX := Lib.hid (HX.out.trans (hv1.mono (by have h9 := HX.out.size; first | omega | (simp at h9; omega) | simp)))
 clear hv1
 go_wp2_with fail
 refine (C2.out _ _ HW1.out HX.out).mono ?_
 rintro e v2 ⟨rfl, hv2⟩
 replace HX := Lib.hid (HX.out.trans (hv2.mono (by have h9 := HX.out.size; first | omega | (simp at h9; omega) | simp)))
 clear hv2
 go_wp2_with fail
 refine (C3.out _ _ HW1.out HX.out).mono ?_
 rintro e v3 ⟨rfl, hv3⟩
 replace HX := Lib.hid (HX.out.trans (hv3.mono (by have h9 := HX.out.size; first | omega | (simp at h9; omega) | simp)))
 clear hv3
 go_wp2_with fail
 obtain ⟨wc, hwc⟩ : ∃ wc : World, wc = v3 := ⟨_, rfl⟩
 rw [← hwc] at HX
 rw [← hwc]
 clear hwc
 refine (CC.out _ _ HW1.out HX.out).mono ?_
 rintro e w2 ⟨v, rfl, hown, hb2⟩
 have HB0 : Hid (∀ W, Below wc.heap.size wc W → Below w.heap.size w W) := Lib.hid (fun W h => (CX.out _ _ _ _ HW1.out (HX.out.trans (h.mono (by have := HX.out.size; simpa using this)))).1)
 clear CD C1 C2 C3 CC CX HW1 HX HSZ hmf
 by_cases hn0 : n = 0
 ·subst hn0
  have hl0 : l = [] := List.eq_nil_of_length_eq_zero HLE.out
  subst hl0
  obtain ⟨A', c', rfl⟩ : ∃ A' c', v = .slice A' 0 c' := by
   rcases hown.2 with ⟨rfl, _⟩ | ⟨g, c', _, rfl, _⟩
   ·exact ⟨none, 0, rfl⟩
   ·exact ⟨_, c', rfl⟩
  have HB2 := Lib.hid (HB0.out _ hb2)
  clear hown hb2
  go_wp2_with fail
  refine (sortUse_none A' c' _ _).mono ?_
  rintro e w3 ⟨rfl, rfl⟩
  go_wp2
  refine wp_loop_rounds 1 ?_
  rw [rounds_succ]
  go_wp2
  go_ret
  exact ⟨ret_int (HE.out.trans rfl).symm, HB2.out⟩
 ·obtain ⟨g, c', rfl, hgB⟩ : ∃ g c', v = .slice (some ⟨g, 0, none⟩) n c' ∧ wc.heap.size ≤ g := by
   rcases hown.2 with ⟨_, e⟩ | ⟨g, c', _, rfl, h, _⟩
   ·exact absurd e hn0
   ·exact ⟨g, c', rfl, h⟩
  have HOW := Lib.hid hown
  have HB2 := Lib.hid hb2
  clear hown hb2
  go_wp2_with fail
  refine (sortUse_any HOW.out (by omega)).mono ?_
  rintro e w3 ⟨rfl, s, hp, hs, hown3, hg3⟩
  have HB3 : Hid (Below wc.heap.size wc w3) := Lib.hid (HB2.out.grown hg3 HB2.out.size (fun k hk => by injection hk with hk; omega))
  have HOV : Hid (adjU s = overU l) := Lib.hid (adj_sorted hp HB4.out hs)
  have HSL : Hid (s.length = n) := Lib.hid (hp.length_eq.trans HLE.out)
  have HUS := Lib.hid (uss_own hown3)
  have hgl : g < w3.heap.size := (hown3.lt g rfl).2
  clear HOW HB2 hp hs hown3 hg3 HB4
  go_wp2
  go_loopw [8] (fun b8 wr => ∃ k : Nat, k < n ∧ b8 = .int .i64 ((k + 1 : Nat) : Int) ∧ Hid (anyTo (atI (nextU s) s) (k + 1) = false) ∧ Hid (Below w3.heap.size w3 wr)) (fun b8 _ => n - (intOf b8).toNat)
  case atStart => exact ⟨0, by omega, by go_num, Lib.hid (anyTo_no rfl (by
   obtain ⟨x, hx⟩ : ∃ x, s[0]? = some x := ⟨_, List.getElem?_eq_getElem (by rw [HSL.out]; omega)⟩
   rw [atI_eq hx]; rfl)), Lib.hid (Below.refl _ _)⟩
  case round =>
   obtain ⟨k, hk, rfl, hf, hb⟩ := hrel
   by_cases hlt : k + 1 < n
   ·obtain ⟨p, hp⟩ : ∃ p, s[k]? = some p := ⟨_, List.getElem?_eq_getElem (by rw [HSL.out]; omega)⟩
    obtain ⟨u, hu⟩ : ∃ u, s[k + 1]? = some u := ⟨_, List.getElem?_eq_getElem (by rw [HSL.out]; omega)⟩
    obtain ⟨p0, p1, p2, p3⟩ := (HUS.out k p hp).below hb.out hgl
    obtain ⟨u0, u1, u2, u3⟩ := (HUS.out (k + 1) u hu).below hb.out hgl
    have HNX : Hid (nextU s (k + 1) u = (same p.zone u.zone && decide (u.fr < p.til))) := Lib.hid (next_at hp)
    have HAT := Lib.hid (atI_eq (p := nextU s) hu)
    have HUI := Lib.hid hu
    obtain ⟨j, hj⟩ : ∃ j, j = k + 1 := ⟨_, rfl⟩
    rw [← hj] at u0 u1 u2 u3 hlt hf HNX HAT HUI
    rw [← hj]
    have hw1 : wrap64 ((j : Int) - 1) = (k : Int) := by unfold wrap64; omega
    have hw2 : IntKind.i64.wrap ((j : Int) - 1) = (k : Int) := by rw [IntKind.wrap_i64]; omega
    have HJ := Lib.hid hj
    clear hp hu hj
    cases hq1 : same p.zone u.zone
    ·have g1 : (p.zone.toList == u.zone.toList) = false := hq1
     have HF2 : Hid (anyTo (atI (nextU s) s) (j + 1) = false) := Lib.hid (anyTo_no hf.out (by rw [HAT.out, HNX.out, hq1]; rfl))
     clear hq1 hf
     go_wp2_with fail
     go_quiet (fail)
     go_wp2
     go_roundw
     case rel => exact ⟨j, by omega, by go_num, HF2, Lib.hid (below_drewN hb.out _)⟩
     case measure => simp [intOf]; omega
    ·have g1 : (p.zone.toList == u.zone.toList) = true := hq1
     by_cases hq2 : u.fr < p.til
     ·have g2 : decide (u.fr < p.til) = true := decide_eq_true hq2
      have HEE : Hid (usesE d l = 6) := Lib.hid (by
       rw [HE.out, ← HOV.out, if_pos]
       exact anyI_iff.2 ⟨j, u, HUI.out, by rw [HNX.out, hq1, g2]; rfl⟩)
      clear hq1 hf
      go_wp2_with fail
      go_quiet (fail)
      go_wp2
      go_ret
      exact ⟨ret_int HEE.out.symm, HB0.out _ (HB3.out.trans ((below_drewN hb.out _).mono HB3.out.size))⟩
     ·have g2 : decide (u.fr < p.til) = false := decide_eq_false hq2
      have HF2 : Hid (anyTo (atI (nextU s) s) (j + 1) = false) := Lib.hid (anyTo_no hf.out (by rw [HAT.out, HNX.out, hq1, g2]; rfl))
      clear hq1 hf
      go_wp2_with fail
      go_quiet (fail)
      go_wp2
      go_roundw
      case rel => exact ⟨j, by omega, by go_num, HF2, Lib.hid (below_drewN hb.out _)⟩
      case measure => simp [intOf]; omega
   ·have HEE : Hid (usesE d l = 0) := Lib.hid (by
     have hk2 : k + 1 = s.length := by rw [HSL.out]; omega
     have hf2 := hf.out
     rw [hk2] at hf2
     rw [HE.out, ← HOV.out, if_neg]
     unfold adjU anyI
     rw [hf2]; simp)
    obtain ⟨j, hj⟩ : ∃ j, j = k + 1 := ⟨_, rfl⟩
    rw [← hj] at hlt
    rw [← hj]
    clear hj hf
    go_wp2
    go_ret
    exact ⟨ret_int HEE.out.symm, HB0.out _ (HB3.out.trans (hb.out.mono HB3.out.size))⟩
theorem usesCk_any (d : Dt) (A : Option Addr) (n cap : Nat) (l : List Us) (w : World) (hD : DataAt w w.heap.size d) (hM : MaxAt w w.heap.size) (hU : UsesAt w w.heap.size A n l) :
 Calls Tryz.prog 48 #[d.val, .slice A n cap] w fun e w' => e = .returned (.int .i64 (usesE d l)) ∧ Below w.heap.size w w' := by
 by_cases he : dataE d = 0
 ·by_cases h1 : 10 < n
  ·exact usesCk_many d A n cap l w hD hM hU he h1
  ·cases h2 : hasP badMt l
   ·cases h3 : hasP (noZone d) l
    ·cases h4 : hasP badUse l
     ·exact usesCk_rest d A n cap l w hD hM hU he h1 h2 h3 h4
     ·exact usesCk_use d A n cap l w hD hM hU he h1 h2 h3 h4
    ·exact usesCk_zone d A n cap l w hD hM hU he h1 h2 h3
   ·exact usesCk_mt d A n cap l w hD hM hU he h1 h2
 ·exact usesCk_data d A n cap l w hD hM hU he
end Go.Proofs.YtbbbeldbhlehnaaGreatDoor
end
section
namespace Gno
open Go Go.Proofs.YtbbbeldbhlehnaaGreatDoor
theorem badUse_in {u : Us} (h1 : withinB u.til 1 1893456000 = true) (h2 : withinB u.fr 0 (u.til - 1) = true) : badUse u = false := by
 rw [withinB_iff] at h1 h2
 unfold badUse
 simp; omega
theorem badUse_til {u : Us} (h1 : withinB u.til 1 1893456000 = false) : badUse u = true := by
 rw [withinB_no] at h1
 unfold badUse
 simp; omega
theorem badUse_fr {u : Us} (h1 : withinB u.til 1 1893456000 = true) (h2 : withinB u.fr 0 (u.til - 1) = false) : badUse u = true := by
 rw [withinB_iff] at h1
 rw [withinB_no] at h2
 unfold badUse
 simp; omega
end Gno
namespace Go.Proofs.YtbbbeldbhlehnaaGreatDoor
open Go.RowKit Gno
theorem boxU {d : Dt} {A : Option Addr} {n : Nat} {l : List Us} {w W : World} (hD : DataAt w w.heap.size d) (hU : UsesAt w w.heap.size A n l) (hb : Below (w.heap.size + 1) (w.alloc (Dobj d)) W) :
 Below w.heap.size w W ∧ DataAt W W.heap.size d ∧ UsesAt W W.heap.size A n l ∧ W.cell? ⟨w.heap.size, 0, none⟩ = some (.slice d.sA d.sn d.sc) ∧ W.cell? ⟨w.heap.size, 1, none⟩ = some (.slice d.zA d.zn d.zc) ∧ W.cell? ⟨w.heap.size, 2, none⟩ = some (.slice d.lA d.ln d.lc) := by
 have h1 : Below w.heap.size w W := ((Below.refl w.heap.size w).alloc (Nat.le_refl _) (Dobj d)).trans (hb.mono (by omega))
 have k2 := (hb.block w.heap.size (by omega)).trans (World.alloc_heap_new w (Dobj d))
 unfold Dobj at k2
 exact ⟨h1, hD.next h1, hU.next h1, cell_ofU k2 rfl, cell_ofU k2 rfl, cell_ofU k2 rfl⟩
theorem box_more {d : Dt} {w W V : World} (hb : Below (w.heap.size + 1) (w.alloc (Dobj d)) W) (h : Below W.heap.size W V) : Below (w.heap.size + 1) (w.alloc (Dobj d)) V := hb.trans (h.mono (by have := hb.size; simpa using this))
set_option maxRecDepth 100000 in
set_option maxHeartbeats 16000000 in
theorem usesR_any (d : Dt) (A : Option Addr) (n cap : Nat) (l : List Us) (w : World) (hD : DataAt w w.heap.size d) (hU : UsesAt w w.heap.size A n l) :
 Calls Tryz.prog 50 #[d.val, .slice A n cap] w fun e w' => e = .returned (.int .i64 (usesE d l)) ∧ Below w.heap.size w w' := by
 have hnl : n ≤ 9223372036854775807 := hU.2.1
 have HLE : Hid (l.length = n) := Lib.hid hU.1
 have CX := Lib.hid (fun W hb => boxU (d := d) (A := A) (n := n) (l := l) (w := w) (W := W) hD hU hb)
 have CD : Hid (∀ W, Below (w.heap.size + 1) (w.alloc (Dobj d)) W → Calls Tryz.prog 107 #[.agg #[.slice d.sA d.sn d.sc, .slice d.zA d.zn d.zc, .slice d.lA d.ln d.lc]] W fun e w' => e = .returned (.int .i64 (dataE d)) ∧ Below W.heap.size W w') := Lib.hid (fun W hb => checkData_any d W (CX.out W hb).2.1)
 have CZ : Hid (∀ s W, Below (w.heap.size + 1) (w.alloc (Dobj d)) W → Calls Tryz.prog 74 #[.agg #[.slice d.sA d.sn d.sc, .slice d.zA d.zn d.zc, .slice d.lA d.ln d.lc], .string s] W fun e w' => e = .returned (.int .i64 (zoneN d s)) ∧ Below W.heap.size W w') := Lib.hid (fun s W hb => zoneN_any d s W (CX.out W hb).2.1)
 have HU : Hid (∀ i, i < n → ∃ b o u, A = some ⟨b, o, none⟩ ∧ b < w.heap.size ∧ l[i]? = some u ∧ u.zone.size ≤ maxLen ∧ u.mt.size ≤ maxLen ∧ ∀ W, Below w.heap.size w W → UsAt W b (o + i * 4) u) := Lib.hid (fun i hi => uses_get hU hi)
 have HX0 : Hid (Below (w.heap.size + 1) (w.alloc (Dobj d)) (w.alloc (Dobj d))) := Lib.hid (Below.refl _ _)
 clear hD hU
 by_cases he : dataE d = 0
 ·have CD0 : Hid (∀ W, Below (w.heap.size + 1) (w.alloc (Dobj d)) W → Calls Tryz.prog 107 #[.agg #[.slice d.sA d.sn d.sc, .slice d.zA d.zn d.zc, .slice d.lA d.ln d.lc]] W fun e w' => e = .returned (.int .i64 0) ∧ Below W.heap.size W w') := Lib.hid (by have := CD.out; rwa [he] at this)
  have HE := Lib.hid he
  clear CD he
  by_cases h10 : 10 < n
  ·have d10 : decide ((10 : Int) < (n : Int)) = true := decide_eq_true (by omega)
   have HX : Hid (usesE d l = 2) := Lib.hid (usesE_many HE.out (by rw [HLE.out]; exact h10))
   unfold Dt.val
   go_enter Tryz.func50, Tryz.ntmps50
   go_wp2_with fail
   refine (CD0.out _ HX0.out).mono ?_
   rintro e w1 ⟨rfl, hw1⟩
   have HB := Lib.hid (CX.out _ (box_more HX0.out hw1)).1
   clear hw1
   go_wp2
   go_ret
   exact ⟨ret_int HX.out.symm, HB.out⟩
  have d10 : decide ((10 : Int) < (n : Int)) = false := decide_eq_false (by omega)
  have HL10 : Hid (¬ 10 < l.length) := Lib.hid (by rw [HLE.out]; exact h10)
  unfold Dt.val
  go_enter Tryz.func50, Tryz.ntmps50
  go_wp2_with fail
  refine (CD0.out _ HX0.out).mono ?_
  rintro e w1 ⟨rfl, hw1⟩
  have HW1 := Lib.hid (box_more HX0.out hw1)
  clear hw1 CD0
  go_wp2
  go_loopw [6] (fun b6 wr => ∃ k : Nat, k ≤ n ∧ b6 = .int .i64 k ∧ Hid (anyTo (atI (fun _ => badMt) l) k = false) ∧ Hid (Below (w.heap.size + 1) (w.alloc (Dobj d)) wr)) (fun b6 _ => n - (intOf b6).toNat)
  case atStart => exact ⟨0, Nat.zero_le _, rfl, Lib.hid rfl, HW1⟩
  case round =>
   clear HW1 HX0
   obtain ⟨k, hk, rfl, hf, hb⟩ := hrel
   by_cases hlt : k < n
   ·obtain ⟨b, o, u, hA, hbB, hu, hz, hm, hc⟩ := HU.out k hlt
    obtain ⟨e0, e1, e2, e3⟩ := hc _ (CX.out _ hb.out).1
    have NM := isName_any u.mt wr hm
    have HUI := Lib.hid hu
    have HAT := Lib.hid (atI_eq (p := fun _ => badMt) hu)
    subst hA
    clear hu hc hm hz
    cases hq : nameOk u.mt
    ·rw [hq] at NM
     have NM := Lib.hid NM
     have HX : Hid (usesE d l = 5) := Lib.hid (usesE_mt HE.out HL10.out (hasP_yes HUI.out (by unfold badMt badNm; rw [hq]; rfl)))
     clear hq hf
     go_wp2_with (go_at_call 14; (with_reducible refine NM.out.mono ?_); rintro e w2 ⟨rfl, rfl⟩)
     go_ret
     exact ⟨ret_int HX.out.symm, (CX.out _ hb.out).1⟩
    ·rw [hq] at NM
     have NM := Lib.hid NM
     have HF : Hid (anyTo (atI (fun _ => badMt) l) (k + 1) = false) := Lib.hid (anyTo_no hf.out (by rw [HAT.out]; unfold badMt badNm; rw [hq]; rfl))
     clear hq hf
     go_wp2_with (go_at_call 14; (with_reducible refine NM.out.mono ?_); rintro e w2 ⟨rfl, rfl⟩)
     go_roundw
     case rel => exact ⟨k + 1, by omega, by go_num, HF, hb⟩
     case measure => simp [intOf]; omega
   ·have HP1 : Hid (hasP badMt l = false) := Lib.hid (hasP_no (i := k) (by rw [HLE.out]; exact hlt) (by rw [HLE.out]; exact hk) hf.out)
    have HW2 := hb
    clear hf
    go_wp2
    go_loopw [7] (fun b7 wr => ∃ k : Nat, k ≤ n ∧ b7 = .int .i64 k ∧ Hid (anyTo (atI (fun _ => noZone d) l) k = false) ∧ Hid (Below (w.heap.size + 1) (w.alloc (Dobj d)) wr)) (fun b7 _ => n - (intOf b7).toNat)
    case atStart => exact ⟨0, Nat.zero_le _, rfl, Lib.hid rfl, HW2⟩
    case round =>
     clear HW2 hb hlt hk
     obtain ⟨k, hk, rfl, hf, hb⟩ := hrel
     by_cases hlt : k < n
     ·obtain ⟨b, o, u, hA, hbB, hu, hz, hm, hc⟩ := HU.out k hlt
      obtain ⟨e0, e1, e2, e3⟩ := hc _ (CX.out _ hb.out).1
      obtain ⟨_, _, _, c0, c1, c2⟩ := CX.out _ hb.out
      have HUI := Lib.hid hu
      have HAT := Lib.hid (atI_eq (p := fun _ => noZone d) hu)
      have hbd : Below wr.heap.size wr wr.drew := ⟨rfl, rfl, rfl, Nat.le_refl _, fun _ _ => rfl⟩
      have ZN := CZ.out u.zone _ (box_more hb.out hbd)
      have HBD := Lib.hid hbd
      obtain ⟨Z, hZ⟩ : ∃ Z, Z = zoneN d u.zone := ⟨_, rfl⟩
      rw [← hZ] at ZN
      have ZN := Lib.hid ZN
      have HZ := Lib.hid hZ
      subst hA
      clear hu hc hm hz hbd hZ
      by_cases hq : Z < 0
      ·have g1 : decide (Z < 0) = true := decide_eq_true hq
       have HX : Hid (usesE d l = 4) := Lib.hid (usesE_zone HE.out HL10.out HP1.out (hasP_yes HUI.out (by unfold noZone; rw [← HZ.out]; exact g1)))
       clear hf
       go_wp2_with fail
       go_still_tail 6, (by kernel_rfl)
       go_wp2_with (go_at_call 74; (with_reducible refine ZN.out.mono ?_); rintro e w2 ⟨rfl, hw2⟩)
       go_ret
       exact ⟨ret_int HX.out.symm, (CX.out _ (box_more hb.out (HBD.out.trans (hw2.mono HBD.out.size)))).1⟩
      ·have g1 : decide (Z < 0) = false := decide_eq_false hq
       have HF : Hid (anyTo (atI (fun _ => noZone d) l) (k + 1) = false) := Lib.hid (anyTo_no hf.out (by rw [HAT.out]; unfold noZone; rw [← HZ.out]; exact g1))
       clear hf
       go_wp2_with fail
       go_still_tail 6, (by kernel_rfl)
       go_wp2_with (go_at_call 74; (with_reducible refine ZN.out.mono ?_); rintro e w2 ⟨rfl, hw2⟩)
       go_roundw
       case rel => exact ⟨k + 1, by omega, by go_num, HF, Lib.hid (box_more hb.out (HBD.out.trans (hw2.mono HBD.out.size)))⟩
       case measure => simp [intOf]; omega
     ·have HP2 : Hid (hasP (noZone d) l = false) := Lib.hid (hasP_no (i := k) (by rw [HLE.out]; exact hlt) (by rw [HLE.out]; exact hk) hf.out)
      have HW3 := hb
      clear hf CZ
      go_wp2
      go_loopw [8] (fun b8 wr => ∃ k : Nat, k ≤ n ∧ b8 = .int .i64 k ∧ Hid (anyTo (atI (fun _ => badUse) l) k = false) ∧ Hid (Below (w.heap.size + 1) (w.alloc (Dobj d)) wr)) (fun b8 _ => n - (intOf b8).toNat)
      case atStart => exact ⟨0, Nat.zero_le _, rfl, Lib.hid rfl, HW3⟩
      case round =>
       clear HW3 hb hlt hk
       obtain ⟨k, hk, rfl, hf, hb⟩ := hrel
       by_cases hlt : k < n
       ·obtain ⟨b, o, u, hA, hbB, hu, hz, hm, hc⟩ := HU.out k hlt
        obtain ⟨e0, e1, e2, e3⟩ := hc _ (CX.out _ hb.out).1
        have HUI := Lib.hid hu
        have HAT := Lib.hid (atI_eq (p := fun _ => badUse) hu)
        subst hA
        clear hu hc hm hz
        cases hq1 : withinB u.til 1 1893456000
        ·have W1 : Hid (∀ w, Calls Tryz.prog 45 #[.int .i64 u.til, .int .i64 1, .int .i64 1893456000] w fun e w' => e = .returned (.bool false) ∧ w' = w) := Lib.hid (fun w => by have h9 := (within_any u.til 1 1893456000 w).mono (fun _ _ h => (⟨h.1, h.2.symm⟩ : _ ∧ _)); rwa [hq1] at h9)
         have HX : Hid (usesE d l = 3) := Lib.hid (usesE_use HE.out HL10.out HP1.out HP2.out (hasP_yes HUI.out (badUse_til hq1)))
         clear hf hq1
         go_wp2_with fail
         go_quiet ((go_at_call 45; exact Calls.quiet_of_same (W1.out _)))
         go_wp2
         go_ret
         exact ⟨ret_int HX.out.symm, (CX.out _ (below_drewN hb.out _)).1⟩
        ·have W1 : Hid (∀ w, Calls Tryz.prog 45 #[.int .i64 u.til, .int .i64 1, .int .i64 1893456000] w fun e w' => e = .returned (.bool true) ∧ w' = w) := Lib.hid (fun w => by have h9 := (within_any u.til 1 1893456000 w).mono (fun _ _ h => (⟨h.1, h.2.symm⟩ : _ ∧ _)); rwa [hq1] at h9)
         have hbd := (withinB_iff _ _ _).1 hq1
         have hw1 : IntKind.i64.wrap (u.til - 1) = u.til - 1 := by rw [IntKind.wrap_i64]; omega
         cases hq2 : withinB u.fr 0 (u.til - 1)
         ·have W2 : Hid (∀ w, Calls Tryz.prog 45 #[.int .i64 u.fr, .int .i64 0, .int .i64 (u.til - 1)] w fun e w' => e = .returned (.bool false) ∧ w' = w) := Lib.hid (fun w => by have h9 := (within_any u.fr 0 (u.til - 1) w).mono (fun _ _ h => (⟨h.1, h.2.symm⟩ : _ ∧ _)); rwa [hq2] at h9)
          have HX : Hid (usesE d l = 3) := Lib.hid (usesE_use HE.out HL10.out HP1.out HP2.out (hasP_yes HUI.out (badUse_fr hq1 hq2)))
          clear hf hq1 hq2
          go_wp2_with fail
          go_quiet ((first | (go_at_call 45; (with_reducible exact Calls.quiet_of_same (W1.out _))) | (go_at_call 45; (with_reducible exact Calls.quiet_of_same (W2.out _)))))
          go_wp2
          go_ret
          exact ⟨ret_int HX.out.symm, (CX.out _ (below_drewN hb.out _)).1⟩
         ·have W2 : Hid (∀ w, Calls Tryz.prog 45 #[.int .i64 u.fr, .int .i64 0, .int .i64 (u.til - 1)] w fun e w' => e = .returned (.bool true) ∧ w' = w) := Lib.hid (fun w => by have h9 := (within_any u.fr 0 (u.til - 1) w).mono (fun _ _ h => (⟨h.1, h.2.symm⟩ : _ ∧ _)); rwa [hq2] at h9)
          have HF : Hid (anyTo (atI (fun _ => badUse) l) (k + 1) = false) := Lib.hid (anyTo_no hf.out (by rw [HAT.out]; exact badUse_in hq1 hq2))
          clear hf hq1 hq2
          go_wp2_with fail
          go_quiet ((first | (go_at_call 45; (with_reducible exact Calls.quiet_of_same (W1.out _))) | (go_at_call 45; (with_reducible exact Calls.quiet_of_same (W2.out _)))))
          go_wp2
          go_roundw
          case rel => exact ⟨k + 1, by omega, by go_num, HF, Lib.hid (below_drewN hb.out _)⟩
          case measure => simp [intOf]; omega
       ·have HP3 : Hid (hasP badUse l = false) := Lib.hid (hasP_no (i := k) (by rw [HLE.out]; exact hlt) (by rw [HLE.out]; exact hk) hf.out)
        have HOV : Hid (usesE d l = if overU l = true then 6 else 0) := Lib.hid (usesE_over HE.out HL10.out HP1.out HP2.out HP3.out)
        have HW4 := hb
        clear hf HP1 HP2 HP3
        go_wp2
        go_loopw [9, 10] (fun b9 b10 wr => ∃ k : Nat, k ≤ n ∧ b9 = .int .i64 k ∧ Hid (anyTo (atI (fun k u => anyTo (atI (fun _ a => clash a u) l) k) l) k = false) ∧ Hid (Below (w.heap.size + 1) (w.alloc (Dobj d)) wr)) (fun b9 _ _ => n - (intOf b9).toNat)
        case atStart => exact ⟨0, Nat.zero_le _, rfl, Lib.hid rfl, HW4⟩
        case round =>
         clear HW4 hb hlt hk
         obtain ⟨k, hk, rfl, hf, hb⟩ := hrel
         by_cases hlt : k < n
         ·obtain ⟨b, o, u, hA, hbB, hu, hz, hm, hc⟩ := HU.out k hlt
          subst hA
          have HUI := Lib.hid hu
          have HAT := Lib.hid (atI_eq (p := fun k u => anyTo (atI (fun _ a => clash a u) l) k) hu)
          have HCU := Lib.hid hc
          have HBO := hb
          obtain ⟨wo, hwo⟩ : ∃ wo : World, wo = wr := ⟨_, rfl⟩
          rw [← hwo] at HBO
          rw [← hwo]
          clear hu hc hm hz hb hwo
          go_wp2
          go_loopw [10] (fun b10 wr => ∃ i : Nat, i ≤ k ∧ b10 = .int .i64 i ∧ Hid (anyTo (atI (fun _ a => clash a u) l) i = false) ∧ Hid (Below (w.heap.size + 1) (w.alloc (Dobj d)) wr)) (fun b10 _ => k - (intOf b10).toNat)
          case atStart => exact ⟨0, Nat.zero_le _, rfl, Lib.hid rfl, HBO⟩
          case round =>
           clear HBO
           obtain ⟨i, hi, rfl, hfi, hb⟩ := hrel
           obtain ⟨e0, e1, e2, e3⟩ := HCU.out _ (CX.out _ hb.out).1
           by_cases hik : i < k
           ·obtain ⟨b', o', a, hA', _, ha, _, _, hca⟩ := HU.out i (by omega)
            injection hA' with hA'
            injection hA' with q1 q2 _
            subst q1
            subst q2
            obtain ⟨f0, f1, f2, f3⟩ := hca _ (CX.out _ hb.out).1
            have HAI := Lib.hid (atI_eq (p := fun _ a => clash a u) ha)
            have HAA := Lib.hid ha
            have hin : i < n := by omega
            clear ha hca
            cases hq1 : same a.zone u.zone
            ·have g1 : (a.zone.toList == u.zone.toList) = false := hq1
             have HF2 : Hid (anyTo (atI (fun _ a => clash a u) l) (i + 1) = false) := Lib.hid (anyTo_no hfi.out (by rw [HAI.out]; unfold clash; rw [hq1]; rfl))
             clear hq1 hfi
             go_wp2_with fail
             go_quiet (fail)
             go_wp2
             go_roundw
             case rel => exact ⟨i + 1, by omega, by go_num, HF2, Lib.hid (below_drewN hb.out _)⟩
             case measure => simp [intOf]; omega
            ·have g1 : (a.zone.toList == u.zone.toList) = true := hq1
             by_cases hq2 : a.fr < u.til
             ·have g2 : decide (a.fr < u.til) = true := decide_eq_true hq2
              by_cases hq3 : u.fr < a.til
              ·have g3 : decide (u.fr < a.til) = true := decide_eq_true hq3
               have HX : Hid (usesE d l = 6) := Lib.hid (by
                rw [HOV.out, if_pos]
                exact anyI_iff.2 ⟨k, u, HUI.out, anyTo_yes hik (by rw [HAI.out]; unfold clash; rw [hq1, g2, g3]; rfl)⟩)
               clear hq1 hfi
               go_wp2_with fail
               go_quiet (fail)
               go_wp2
               go_ret
               exact ⟨ret_int HX.out.symm, (CX.out _ (below_drewN hb.out _)).1⟩
              ·have g3 : decide (u.fr < a.til) = false := decide_eq_false hq3
               have HF2 : Hid (anyTo (atI (fun _ a => clash a u) l) (i + 1) = false) := Lib.hid (anyTo_no hfi.out (by rw [HAI.out]; unfold clash; rw [hq1, g2, g3]; rfl))
               clear hq1 hfi
               go_wp2_with fail
               go_quiet (fail)
               go_wp2
               go_roundw
               case rel => exact ⟨i + 1, by omega, by go_num, HF2, Lib.hid (below_drewN hb.out _)⟩
               case measure => simp [intOf]; omega
             ·have g2 : decide (a.fr < u.til) = false := decide_eq_false hq2
              have HF2 : Hid (anyTo (atI (fun _ a => clash a u) l) (i + 1) = false) := Lib.hid (anyTo_no hfi.out (by rw [HAI.out]; unfold clash; rw [hq1, g2]; rfl))
              clear hq1 hfi
              go_wp2_with fail
              go_quiet (fail)
              go_wp2
              go_roundw
              case rel => exact ⟨i + 1, by omega, by go_num, HF2, Lib.hid (below_drewN hb.out _)⟩
              case measure => simp [intOf]; omega
           ·have HF3 : Hid (anyTo (atI (fun k u => anyTo (atI (fun _ a => clash a u) l) k) l) (k + 1) = false) := Lib.hid (anyTo_no hf.out (by
             rw [HAT.out]
             have : i = k := by omega
             rw [← this]; exact hfi.out))
            clear hf hfi
            go_wp2
            go_roundw
            case rel => exact ⟨k + 1, by omega, by go_num, HF3, hb⟩
            case measure => simp [intOf]; omega
         ·have HX : Hid (usesE d l = 0) := Lib.hid (by
           rw [HOV.out, if_neg]
           have h9 : overU l = false := anyI_end (i := k) (by rw [HLE.out]; exact hlt) (by rw [HLE.out]; exact hk) hf.out
           rw [h9]; simp)
          clear hf
          go_wp2
          go_ret
          exact ⟨ret_int HX.out.symm, (CX.out _ hb.out).1⟩
 ·obtain ⟨E, hE⟩ : ∃ E, E = dataE d := ⟨_, rfl⟩
  have HX : Hid (usesE d l = E) := Lib.hid (by rw [hE]; exact usesE_data he)
  rw [← hE] at CD he
  have e1 : (E != 0) = true := by simpa using he
  have e2 : (E == 0) = false := by simpa using he
  clear hE
  unfold Dt.val
  go_enter Tryz.func50, Tryz.ntmps50
  go_wp2_with fail
  refine (CD.out _ HX0.out).mono ?_
  rintro e w1 ⟨rfl, hw1⟩
  have HB := Lib.hid (CX.out _ (box_more HX0.out hw1)).1
  clear hw1
  go_wp2
  go_ret
  exact ⟨ret_int HX.out.symm, HB.out⟩
end Go.Proofs.YtbbbeldbhlehnaaGreatDoor
end
