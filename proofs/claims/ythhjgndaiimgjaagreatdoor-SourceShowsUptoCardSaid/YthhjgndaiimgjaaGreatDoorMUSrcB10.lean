/- Parts of a proof, laid together. -/
import Derived.Lib.Builder
import Derived.Lib.AppendStr
import Derived.Lib.UnsafeStr
import Derived.Lib.OthersKept
import Derived.Laws.Externs
import Derived.Shelf.RegionOpenPlain
import Derived.Test.YthhjgndaiimgjaaGreatDoorMUSrcB5
import Derived.Test.YthhjgndaiimgjaaGreatDoorMUSrcB0
set_option linter.unusedSimpArgs false
set_option linter.unusedVariables false
/-! The pen: a strings.Builder in a struct of the program's own: copyCheck, WriteByte, WriteString, String. -/
section
set_option linter.unusedVariables false
set_option linter.unusedSimpArgs false
set_option maxRecDepth 100000
namespace Gno
open Go Go.RowKit Go.Proofs.YthhjgndaiimgjaaGreatDoor
/-- bytes as cells. -/
def byC (l : Bt) : List Value := l.map fun b => Value.int .u8 b.toNat
theorem byC_len (l : Bt) : (byC l).length = l.length := by simp [byC]
theorem byC_app (a b : Bt) : byC (a ++ b) = byC a ++ byC b := by simp [byC]
theorem byC_str (s : ByteArray) : Lib.strCells s = byC s.data.toList := rfl
/-- a pen that holds the bytes l. -/
def PenIs (B b : Nat) (l : Bt) (w : World) : Prop := Lib.IsBuilder 45 5 B b (byC l) w
def PenUsed (B b : Nat) (l : Bt) (w : World) : Prop := Lib.BuilderAt 45 5 B b (.pointer (some ⟨b, 0, none⟩)) (byC l) w
theorem PenUsed.is {B b : Nat} {l : Bt} {w : World} (h : PenUsed B b l w) : PenIs B b l w := .inr h
/-- what lies elsewhere may be laid beside. -/
theorem PenIs.kept {B b : Nat} {l : Bt} {w w' : World} (h : PenIs B b l w) (hb : Below w.heap.size w w') : PenIs B b l w' := by
  have k : ∀ p, Lib.BuilderAt 45 5 B b p (byC l) w → Lib.BuilderAt 45 5 B b p (byC l) w' := by
    rintro p ⟨hB, v, hv, hown, hne⟩
    refine ⟨hB, v, (hb.block b (Array.getElem?_eq_some_iff.1 hv).1).trans hv, hown.kept (row := none) ⟨hb.os, hb.tape, hb.output, hb.size, fun k hk _ => hb.block k hk⟩ ?_, hne⟩
    cases v.ownBlock with
    | none => exact .inl rfl
    | some k => exact .inr (by simp)
  rcases h with h | h
  · exact .inl (k _ h)
  · exact .inr (k _ h)
/-- what a pen leaves alone: all below B, and every block but its own and rows of bytes. -/
def PG (B b : Nat) (w w' : World) : Prop := Below B w w' ∧ Lib.OthersKept 5 (some b) w w'
theorem PG.refl (B b : Nat) (w : World) : PG B b w w := ⟨Below.refl _ _, Lib.OthersKept.refl _ _ _⟩
theorem PG.trans {B b : Nat} {w w1 w2 : World} (h : PG B b w w1) (k : PG B b w1 w2) : PG B b w w2 := ⟨h.1.trans k.1, h.2.trans k.2⟩
theorem PG.alloc {B b : Nat} {w w1 : World} (h : PG B b w w1) (hB : B ≤ w.heap.size) (o : Obj) : PG B b w (w1.alloc o) := ⟨h.1.alloc (Nat.le_trans hB h.1.size) o, h.2.alloc o⟩
theorem PG.drew {B b : Nat} {w w1 : World} (h : PG B b w w1) : PG B b w w1.drew := ⟨h.1.drew, h.2.drew⟩
theorem PG.of_below {B b : Nat} {w w1 w2 : World} (h : PG B b w w1) (hB : B ≤ w.heap.size) (k : Below w1.heap.size w1 w2) : PG B b w w2 :=
  ⟨h.1.trans (k.mono (Nat.le_trans hB h.1.size)), fun i o hi hb ho => by
    have h1 := h.2 i o hi hb ho
    exact (k.block i (Array.getElem?_eq_some_iff.1 h1).1).trans h1⟩
theorem PG.block {B b : Nat} {w w1 : World} (h : PG B b w w1) {k : Nat} {c : Array Value} {T : TypeId} {fz : Nat × Nat} (hk : w.heap[k]? = some (.cells c T fz)) (hb : k ≠ b) (hT : T ≠ 5) : w1.heap[k]? = some (.cells c T fz) :=
  h.2 k _ hk (fun e => hb (Option.some.inj e)) (fun c' fz' e => hT (by injection e))
theorem PenIs.lt {B b : Nat} {l : Bt} {w : World} (h : PenIs B b l w) : b < w.heap.size ∧ B ≤ b := by
  rcases h with h | h
  · exact ⟨h.lt, h.1⟩
  · exact ⟨h.lt, h.1⟩
theorem PenIs.block {B b : Nat} {l : Bt} {w : World} (h : PenIs B b l w) : ∃ p v, w.heap[b]? = some (.cells #[p, v] 45 (0, 0)) := by
  rcases h with ⟨_, v, h, _⟩ | ⟨_, v, h, _⟩
  · exact ⟨_, v, h⟩
  · exact ⟨_, v, h⟩
end Gno
namespace Go.Proofs.YthhjgndaiimgjaaGreatDoor
open Go.RowKit Gno
theorem pen_form {w : World} {B : Nat} {e : TypeId} {sz n : Nat} {v : Value} {xs : List Value} (h : w.ownsRow B e sz v n xs) : ∃ A cap, v = .slice A n cap := by
  rcases h.2 with ⟨e, q⟩ | ⟨g, cap, cur, e, _⟩
  · exact ⟨none, 0, by rw [e, q]⟩
  · exact ⟨_, cap, e⟩
theorem pen_grown {w w2 : World} {b : Nat} {v : Value} {o : Obj} (hbk : w.heap[b]? = some o) (hg : w.grownBy w2 v.ownBlock) (hne : v.ownBlock ≠ some b) : w2.heap[b]? = some o :=
  (hg.block b (Array.getElem?_eq_some_iff.1 hbk).1 (fun e => hne e.symm)).trans hbk
theorem infoU8 : (Tryz.prog.info? 5).map (fun i => (i.zero, i.size, i.bytes)) = some (some (.int .u8 0), 1, 1) := by kernel_rfl
set_option maxHeartbeats 4000000 in
theorem penCopy_fresh (b : Nat) (w : World) (h0 : w.cell? ⟨b, 0, none⟩ = some (.pointer none)) (hsh : w.shape? b = some (45, 2)) (hfz : w.frozen? ⟨b, 0, none⟩ = false) :
    Calls Tryz.prog 86 #[.pointer (some ⟨b, 0, none⟩)] w fun e w' => e = .returned (.tuple #[]) ∧ w' = w.setCell ⟨b, 0, none⟩ (.pointer (some ⟨b, 0, none⟩)) := by
  obtain ⟨j, hj, hjs⟩ : ∃ j, Tryz.prog.info? 43 = some j ∧ j.size = 2 := Option.map_eq_some_iff.1 (show (Tryz.prog.info? 43).map (·.size) = some 2 by kernel_rfl)
  have hlies : liesAt Tryz.prog Tryz.prog.depth 45 (2 / Tryz.prog.cellsOf 45) 0 43 1 = true := by kernel_rfl
  go_enter Tryz.func86, Tryz.ntmps86
  go_wp2
  rw [Lib.run_to_unsafe w ⟨b, 0, none⟩ Tryz.underlying40 Tryz.underlying142 hj (by rw [hjs]; decide) hsh (Nat.zero_lt_succ 1)]
  simp only [Result.andThen]
  rw [Oper.upon_value]
  go_wp2
  rw [run_callFunc_extern Tryz.func103 (by kernel_rfl) (by kernel_rfl) (by kernel_rfl) (e := Extern.AbiNoEscape.same) (by kernel_rfl)]
  rw [Lib.run_noEscape]
  simp only [Result.andThen]
  rw [Oper.upon_value]
  go_wp2
  rw [Lib.run_from_unsafe w ⟨b, 0, none⟩ Tryz.underlying142 Tryz.underlying40 hj hsh hlies]
  simp only [Result.andThen]
  rw [Oper.upon_value]
  go_wp2
  exact ⟨rfl, _, results_none rfl _ _ _, rfl, rfl⟩
set_option maxHeartbeats 4000000 in
theorem penCopy_used (b : Nat) (w : World) (h0 : w.cell? ⟨b, 0, none⟩ = some (.pointer (some ⟨b, 0, none⟩))) :
    Calls Tryz.prog 86 #[.pointer (some ⟨b, 0, none⟩)] w fun e w' => e = .returned (.tuple #[]) ∧ w' = w := by
  obtain ⟨j, hj⟩ : ∃ j, Tryz.prog.info? 43 = some j := Option.isSome_iff_exists.1 (show (Tryz.prog.info? 43).isSome = true by kernel_rfl)
  go_enter Tryz.func86, Tryz.ntmps86
  go_wp2
  rw [Lib.run_neq_ptr_same w _ Tryz.underlying40 hj]
  go_wp2
  go_end0
  exact ⟨rfl, rfl⟩
theorem penCopy_any (B b : Nat) (l : Bt) (w : World) (h : PenIs B b l w) :
    Calls Tryz.prog 86 #[.pointer (some ⟨b, 0, none⟩)] w fun e w' => e = .returned (.tuple #[]) ∧ PenUsed B b l w' ∧ PG B b w w' := by
  rcases h with h | h
  · refine (penCopy_fresh b w h.cell0 h.shape h.frozen0).mono ?_
    rintro e w' ⟨rfl, rfl⟩
    exact ⟨rfl, h.used _, (Below.refl B w).setCell (p := ⟨b, 0, none⟩) h.1 _, (Lib.OthersKept.refl _ _ w).setCell ⟨b, 0, none⟩ rfl _⟩
  · refine (penCopy_used b w h.cell0).mono ?_
    rintro e w' ⟨rfl, rfl⟩
    exact ⟨rfl, h, PG.refl _ _ _⟩
set_option maxHeartbeats 4000000 in
theorem penByte_any (B b : Nat) (l : Bt) (c : UInt8) (w : World) (h : PenIs B b l w) (hl : l.length ≤ 1000000000000) (hB : B ≤ w.heap.size) :
    Calls Tryz.prog 52 #[.pointer (some ⟨b, 0, none⟩), .int .u8 c.toNat] w fun e w' => e = .returned .nilIface ∧ PenUsed B b (l ++ [c]) w' ∧ PG B b w w' := by
  have C := Lib.hid (penCopy_any B b l w h)
  have HL := Lib.hid (byC_len l)
  clear h
  go_enter Tryz.func52, Tryz.ntmps52
  go_wp2_with (go_at_call 86; (with_reducible refine C.out.mono ?_))
  rintro e w1 ⟨rfl, h1, hb1, hk1⟩
  obtain ⟨hBb, v, hbk, hown, hne⟩ := h1
  have c0 : w1.cell? ⟨b, 0, none⟩ = some (.pointer (some ⟨b, 0, none⟩)) := by rw [Lib.cell_of_heap hbk]; rfl
  have c1 : w1.cell? ⟨b, 1, none⟩ = some v := by rw [Lib.cell_of_heap hbk]; rfl
  have hlt : b < w1.heap.size := (Array.getElem?_eq_some_iff.1 hbk).1
  have hsz := hb1.size
  go_wp2_with (at_builtin; go_must (refine wpList_app2 rfl _ _ 41 rfl B 5 (.int .u8 0) 1 1 Tryz.underlying41 infoU8 rfl (by decide) v (byC l).length (byC l) rfl (hown.alloc _) ⟨w1.heap.size, 0, none⟩ 1 1 [.int .u8 c.toNat] rfl rfl laid_at (by intro u hu; simp at hu; subst hu; rfl) (by rw [HL.out]; unfold maxLen; omega) (by rw [HL.out]; omega) (by simp; omega) ?_); intro v' w2 hown' hgrow _; obtain ⟨A, cap, rfl⟩ := pen_form hown'; have hb2 := pen_grown (w := w1.alloc (.cells #[.int .u8 c.toNat] 5)) ((Below.heap_alloc w1 _ b hlt).trans hbk) hgrow hne; have d0 : w2.cell? ⟨b, 0, none⟩ = some (.pointer (some ⟨b, 0, none⟩)) := (Lib.cell_of_heap hb2 0).trans rfl; have d1 : w2.cell? ⟨b, 1, none⟩ = some v := (Lib.cell_of_heap hb2 1).trans rfl; have f1 := Lib.frozen_of_heap hb2 1)
  go_ret
  refine ⟨rfl, ?_, ?_⟩
  · exact Lib.BuilderAt.put hBb hb2 (bs' := byC (l ++ [c])) (by rw [show byC (l ++ [c]) = byC l ++ [.int .u8 c.toNat] by rw [byC_app]; rfl, List.length_append]; exact hown') (by decide)
  · exact ⟨((hb1.alloc (by omega) _).grown hgrow (by simp; omega) (fun k hk => (hown.lt k hk).1)).setCell (p := ⟨b, 1, none⟩) hBb _, ((hk1.alloc _).grown hgrow (Lib.ownsRowF_kind (World.ownsRowF_of (hown.alloc _)))).setCell ⟨b, 1, none⟩ rfl _⟩
set_option maxHeartbeats 4000000 in
theorem penStr_any (B b : Nat) (l : Bt) (s : ByteArray) (w : World) (h : PenIs B b l w) (hl : l.length + s.size ≤ 1000000000000) (hB : B ≤ w.heap.size) :
    Calls Tryz.prog 53 #[.pointer (some ⟨b, 0, none⟩), .string s] w fun e w' => e = .returned (.tuple #[.int .i64 s.size, .nilIface]) ∧ PenUsed B b (l ++ s.data.toList) w' ∧ PG B b w w' := by
  have C := Lib.hid (penCopy_any B b l w h)
  have HL := Lib.hid (byC_len l)
  have hss : s.size ≤ 9223372036854775807 := by omega
  obtain ⟨i0, hi, hz0, hz1, hz2⟩ := info_parts infoU8
  clear h
  go_enter Tryz.func53, Tryz.ntmps53
  go_wp2_with (go_at_call 86; (with_reducible refine C.out.mono ?_))
  rintro e w1 ⟨rfl, h1, hb1, hk1⟩
  obtain ⟨hBb, v, hbk, hown, hne⟩ := h1
  have c0 : w1.cell? ⟨b, 0, none⟩ = some (.pointer (some ⟨b, 0, none⟩)) := by rw [Lib.cell_of_heap hbk]; rfl
  have c1 : w1.cell? ⟨b, 1, none⟩ = some v := by rw [Lib.cell_of_heap hbk]; rfl
  have hlt : b < w1.heap.size := (Array.getElem?_eq_some_iff.1 hbk).1
  have hsz := hb1.size
  go_wp2_with (at_builtin; go_must (refine Lib.wpList_append_own_string _ rfl _ _ 41 9 rfl B 5 i0 Tryz.underlying41 Tryz.underlying9 hi hz0 hz1 hz2 v (byC l).length (byC l) rfl hown s rfl (by rw [HL.out]; unfold maxLen; omega) (by rw [HL.out]; omega) (by omega) ?_); intro v' w2 hown' hgrow _; obtain ⟨A, cap, rfl⟩ := pen_form hown'; have hb2 := pen_grown hbk hgrow hne; have d0 : w2.cell? ⟨b, 0, none⟩ = some (.pointer (some ⟨b, 0, none⟩)) := (Lib.cell_of_heap hb2 0).trans rfl; have d1 : w2.cell? ⟨b, 1, none⟩ = some v := (Lib.cell_of_heap hb2 1).trans rfl; have f1 := Lib.frozen_of_heap hb2 1)
  go_ret2
  refine ⟨rfl, ?_, ?_⟩
  · exact Lib.BuilderAt.put hBb hb2 (bs' := byC (l ++ s.data.toList)) (by rw [byC_app, ← byC_str]; simpa [Lib.strCells_length] using hown') (by decide)
  · exact ⟨(hb1.grown hgrow (by omega) (fun k hk => (hown.lt k hk).1)).setCell (p := ⟨b, 1, none⟩) hBb _, (hk1.grown hgrow (Lib.ownsRowF_kind (World.ownsRowF_of hown))).setCell ⟨b, 1, none⟩ rfl _⟩
set_option maxHeartbeats 4000000 in
theorem penText_some (B b : Nat) (l : Bt) (w : World) (h : PenIs B b l w) (hl0 : l ≠ []) :
    Calls Tryz.prog 15 #[.pointer (some ⟨b, 0, none⟩)] w fun e w' => e = .returned (.string (Bs l)) ∧ Below B w w' := by
  obtain ⟨p, hAt⟩ : ∃ p, Lib.BuilderAt 45 5 B b p (byC l) w := by
    rcases h with h | h
    · exact ⟨_, h⟩
    · exact ⟨_, h⟩
  obtain ⟨hB, v, hbk, hown, hne⟩ := hAt
  have hbk' : w.drew.heap[b]? = some (.cells #[p, v] 45 (0, 0)) := hbk
  rw [byC_len] at hown
  obtain ⟨g, cap, cur, rfl, hbg, hg, hnc, hcm, hcs, htake⟩ : ∃ g cap cur, v = .slice (some ⟨g, 0, none⟩) l.length cap ∧ B ≤ g ∧ w.heap[g]? = some (.cells cur 5) ∧ l.length ≤ cap ∧ cap ≤ maxLen ∧ cur.size = cap * 1 ∧ cur.toList.take (l.length * 1) = byC l := by
    rcases hown.2 with ⟨_, hz⟩ | ⟨g, cap, cur, hv, r⟩
    · exact absurd (List.eq_nil_of_length_eq_zero hz) hl0
    · exact ⟨g, cap, cur, hv, r⟩
  have hlen : l.length ≠ 0 := fun e => hl0 (List.eq_nil_of_length_eq_zero e)
  have c1 : w.drew.cell? ⟨b, 1, none⟩ = some (.slice (some ⟨g, 0, none⟩) l.length cap) := (Lib.cell_of_heap hbk' 1).trans rfl
  have hSD : (Builtin.unsafeSliceData_ #[41] 107 #[.slice (some ⟨g, 0, none⟩) l.length cap]).run Tryz.prog w.drew = .ok (.pointer (some ⟨g, 0, none⟩)) w.drew :=
    Lib.run_unsafeSliceData_row _ _ _ _ _ _ (by omega)
  have hUS : (Builtin.unsafeString_ #[107, 3] 9 #[.pointer (some ⟨g, 0, none⟩), .int .i64 l.length]).run Tryz.prog w.drew = .ok (.string (Bs l)) (w.drew.freeze ⟨g, 0, none⟩ l.length) := by
    refine Lib.run_unsafeString_row w.drew 107 3 9 5 Tryz.underlying107 (by kernel_rfl) g cur.size (by have hg' : w.drew.heap[g]? = some (.cells cur 5) := hg; simp [World.shape?, hg']) l hl0 (by omega) (by unfold maxLen at hcm; omega) ?_
    intro j x hx
    exact hown.cells (g := g) rfl j (.int .u8 x.toNat) (by simp [byC, hx])
  have hcap : l.length ≤ 9223372036854775807 := by unfold maxLen at hcm; omega
  clear hown htake h
  go_enter Tryz.func15, Tryz.ntmps15
  go_wp2
  have mixed : Tryz.prog.follows Departure.mixedOrders = true := by kernel_rfl
  go_region_o
  all_goals (go_wp2; go_ret; exact ⟨rfl, Lib.below_freeze (Below.drew (Below.refl B w)) (p := ⟨g, 0, none⟩) hbg _⟩)
set_option maxHeartbeats 4000000 in
theorem penText_none (B b : Nat) (w : World) (h : w.heap[b]? = some (.cells #[.pointer none, .slice none 0 0] 45)) :
    Calls Tryz.prog 15 #[.pointer (some ⟨b, 0, none⟩)] w fun e w' => e = .returned (.string (Bs [])) ∧ Below B w w' := by
  have hbk' : w.drew.heap[b]? = some (.cells #[.pointer none, .slice none 0 0] 45 (0, 0)) := h
  have c1 : w.drew.cell? ⟨b, 1, none⟩ = some (.slice none 0 0) := (Lib.cell_of_heap hbk' 1).trans rfl
  have hSD : (Builtin.unsafeSliceData_ #[41] 107 #[.slice none 0 0]).run Tryz.prog w.drew = .ok (.pointer none) w.drew := rfl
  have hUS : (Builtin.unsafeString_ #[107, 3] 9 #[.pointer none, .int .i64 0]).run Tryz.prog w.drew = .ok (.string (Bs [])) w.drew := Lib.run_unsafeString_none _ _ _ _ _
  go_enter Tryz.func15, Tryz.ntmps15
  go_wp2
  have mixed : Tryz.prog.follows Departure.mixedOrders = true := by kernel_rfl
  go_region_o
  all_goals (go_wp2; go_ret; exact ⟨rfl, Below.drew (Below.refl B w)⟩)
end Go.Proofs.YthhjgndaiimgjaaGreatDoor
end
