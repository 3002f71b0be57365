/- Parts of a proof, laid together. -/
import Derived.Test.YthhjgndaiimgjaaGreatDoorMUSrcB19
import Derived.Test.YthhjgndaiimgjaaGreatDoorMUSrcB13
import Derived.Test.YthhjgndaiimgjaaGreatDoorMUSrcB17
import Derived.Test.YthhjgndaiimgjaaGreatDoorMUSrcB7
import Derived.Test.YthhjgndaiimgjaaGreatDoorMUSrcB9
import Derived.Test.YthhjgndaiimgjaaGreatDoorMUSrcB18
import Derived.Test.YthhjgndaiimgjaaGreatDoorMUSrcB4
set_option linter.unusedSimpArgs false
set_option linter.unusedVariables false
/-! The statements of data.Check: their frame, their world, the answer by a chain. -/
section
set_option linter.unusedVariables false
set_option linter.unusedSimpArgs false
namespace Gno
open Go
def manyD (d : Dt) : Bool := !(decide (d.sn ≤ 3) && (decide (d.zn ≤ 5) && decide (d.ln ≤ 4)))
def allNames (d : Dt) : List ByteArray := sNames d ++ (zNames d ++ (lNames d ++ (lTos d ++ [])))
def badE (d : Dt) (x : Er × Int) : Bool := !eraOk d.sn x.1 x.2
def badF (x : Er × Int) : Bool := !fmtOk x.1.fmt
def noTo (d : Dt) (s : ByteArray) : Bool := !(hasS (zNames d) s || hasS (lNames d) s)
def noLead (d : Dt) (s : ByteArray) : Bool := decide (leadN d s < 0)
noncomputable def dE10 (d : Dt) : Int := if anyI (fun _ => noLead d) (lNames d) = true then 7 else 0
noncomputable def dE9 (d : Dt) : Int := if anyI (fun _ => noTo d) (lTos d) = true then 4 else dE10 d
noncomputable def dE8 (d : Dt) : Int := if (erasL d.zs).any badF = true then 1 else dE9 d
noncomputable def dE7 (d : Dt) : Int := if anyI (fun _ => badEnd) d.zs = true then 3 else dE8 d
noncomputable def dE6 (d : Dt) : Int := if (erasL d.zs).any (badE d) = true then 3 else dE7 d
noncomputable def dE5 (d : Dt) : Int := if setsE d.ss ≠ 0 then setsE d.ss else dE6 d
noncomputable def dE4 (d : Dt) : Int := if (dup (sNames d) || dup (zNames d ++ lNames d)) = true then 6 else dE5 d
noncomputable def dE3 (d : Dt) : Int := if anyI (fun _ => badNm) (allNames d) = true then 5 else dE4 d
noncomputable def dE2 (d : Dt) : Int := if anyI (fun _ => manyEras) d.zs = true then 2 else dE3 d
noncomputable def dE1 (d : Dt) : Int := if anyI (fun _ => manyRules) d.ss = true then 2 else dE2 d
/-- what Check answers. -/
noncomputable def dataE (d : Dt) : Int := if manyD d = true then 2 else dE1 d
theorem manyD_no {d : Dt} (h : d.sn ≤ 3) (h2 : d.zn ≤ 5) (h3 : d.ln ≤ 4) : manyD d = false := by simp [manyD, h, h2, h3]
theorem manyD_le {d : Dt} (h : manyD d = false) : d.sn ≤ 3 ∧ d.zn ≤ 5 ∧ d.ln ≤ 4 := by
  unfold manyD at h; simp at h; exact h
/-- an array by what is known of it. -/
def arrF (g : Nat → Value) (n : Nat) : Array Value := ((List.range n).map g).toArray
def upd : List (Nat × Value) → (Nat → Value) → Nat → Value
  | [], f, i => f i
  | (k, v) :: r, f, i => if i = k then v else upd r f i
def Regs : List (Nat × Value) → Array Value → Prop
  | [], _ => True
  | (k, v) :: r, a => a[k]? = some v ∧ Regs r a
theorem upd_get : ∀ {rs : List (Nat × Value)} {a : Array Value} {i : Nat}, Regs rs a → i < a.size → a[i]? = some (upd rs (fun j => a.getD j undef) i)
  | [], a, i, _, h => by simp [upd, h]
  | (k, v) :: r, a, i, h, hi => by
    unfold upd
    by_cases e : i = k
    · rw [if_pos e, e]; exact h.1
    · rw [if_neg e]; exact upd_get h.2 hi
theorem arr_open {rs : List (Nat × Value)} {a : Array Value} {n : Nat} (hs : a.size = n) (h : Regs rs a) : ∃ f : Nat → Value, a = arrF (upd rs f) n := by
  refine ⟨fun j => a.getD j undef, ?_⟩
  refine Array.ext (by simp [arrF, hs]) fun i h1 h2 => ?_
  have := upd_get h h1
  rw [Array.getElem?_eq_getElem h1] at this
  injection this with this
  rw [this]
  simp [arrF]
end Gno
namespace Go.Proofs.YthhjgndaiimgjaaGreatDoor
open Go.RowKit Gno
def Marks (ds : List Deferred) (e0 : Nat) (W : World) : Prop := ∃ rs : List Nat, ds = rs.map markD ++ [guardD e0] ∧ rs.Nodup ∧ ∀ r ∈ rs, e0 < r ∧ W.heap[r]? = some (.deferred (some []))
theorem Marks.step {ds : List Deferred} {e0 : Nat} {W W' : World} (h : Marks ds e0 W) (hb : Below W.heap.size W W') : Marks ds e0 W' := by
  obtain ⟨rs, h1, h2, h3⟩ := h
  exact ⟨rs, h1, h2, fun r hr => ⟨(h3 r hr).1, (hb.block _ (Array.getElem?_eq_some_iff.1 (h3 r hr).2).1).trans (h3 r hr).2⟩⟩
/-- the world of Check's call, between two statements: the data's box, the answer's cell, the marks. -/
structure WS (d : Dt) (w : World) (ds : List Deferred) (W : World) : Prop where
  below : Below w.heap.size w W
  d0 : W.heap[w.heap.size]? = some (Dobj d)
  e0 : W.heap[w.heap.size + 1]? = some (.cells #[.int .i64 0] 27)
  size : w.heap.size + 2 ≤ W.heap.size
  marks : Marks ds (w.heap.size + 1) W
theorem WS.step {d : Dt} {w W W' : World} {ds : List Deferred} (h : WS d w ds W) (hb : Below W.heap.size W W') : WS d w ds W' :=
  ⟨h.below.trans (hb.mono h.below.size), (hb.block _ (by have := h.size; omega)).trans h.d0, (hb.block _ (by have := h.size; omega)).trans h.e0, by have := h.size; have := hb.size; omega, h.marks.step hb⟩
theorem WS.cells {d : Dt} {w W : World} {ds : List Deferred} (h : WS d w ds W) :
    W.cell? ⟨w.heap.size, 0, none⟩ = some (.slice d.sA d.sn d.sc) ∧ W.cell? ⟨w.heap.size, 1, none⟩ = some (.slice d.zA d.zn d.zc) ∧ W.cell? ⟨w.heap.size, 2, none⟩ = some (.slice d.lA d.ln d.lc) := by
  have := h.d0
  exact ⟨by simp [World.cell?, this], by simp [World.cell?, this], by simp [World.cell?, this]⟩
def ptr0 (w : World) : Value := .pointer (some ⟨w.heap.size, 0, none⟩)
def ptrE (w : World) : Value := .pointer (some ⟨w.heap.size + 1, 0, none⟩)
structure Live (d : Dt) (w : World) (rs : List (Nat × Value)) (a : Act) (W : World) : Prop where
  size : a.tmps.size = 208
  regs : Regs ((1, .pointer (some ⟨w.heap.size, 0, none⟩)) :: (2, .pointer (some ⟨w.heap.size + 1, 0, none⟩)) :: rs) a.tmps
  ws : WS d w a.defers W
theorem leaves_marks {n0 e0 : Nat} {E : Int} {w : World} {tmps : Array Value} (u : FrameMode) (hu : u ≠ .run)
    (base : ∀ W, Below n0 w W → W.heap[e0]? = some (.cells #[.int .i64 0] 27) → LeavesV Tryz.prog Tryz.f12 tmps (fun e w' => DoorR n0 E e w w') [guardD e0] u W) (hn : n0 ≤ e0) :
    ∀ (rs : List Nat) (W : World), rs.Nodup → (∀ r ∈ rs, e0 < r ∧ W.heap[r]? = some (.deferred (some []))) → Below n0 w W → W.heap[e0]? = some (.cells #[.int .i64 0] 27) →
      LeavesV Tryz.prog Tryz.f12 tmps (fun e w' => DoorR n0 E e w w') (rs.map markD ++ [guardD e0]) u W
  | [], W, _, _, hb, he => base W hb he
  | r :: rs, W, hd, hr, hb, he => by
    have h1 := hr r (by simp)
    have h2 := List.nodup_cons.1 hd
    refine door_mark hu h1.2 (leaves_marks u hu base hn rs _ h2.2 (fun q hq => ?_) (hb.trans (below_putObj.mono (by omega))) ((World.putObj_heap_other (by omega)).trans he))
    have h3 := hr q (by simp [hq])
    exact ⟨h3.1, (World.putObj_heap_other (by intro e; subst e; exact h2.1 hq)).trans h3.2⟩
/-- out by a panic. -/
theorem door_out {d : Dt} {w W : World} {a : Act} {E F : Int} (hF : F = E) (h : WS d w a.defers W) (ht : a.tmps[2]? = some (.pointer (some ⟨w.heap.size + 1, 0, none⟩))) :
    bodyPostV Tryz.prog Tryz.f12 (fun e w' => DoorR w.heap.size F e w w') (.panic (thrown E)) a W := by
  subst hF
  obtain ⟨rs, h1, h2, h3⟩ := h.marks
  show LeavesV _ _ _ _ a.defers _ _
  rw [h1]
  exact leaves_marks _ (by simp) (fun W hb he => door_panic hb (by omega) he ht) (by omega) rs W h2 h3 h.below h.e0
/-- out by the return. -/
theorem door_ret {d : Dt} {w W : World} {a : Act} {F : Int} (hF : F = 0) (h : WS d w a.defers W) (ht : a.tmps[2]? = some (.pointer (some ⟨w.heap.size + 1, 0, none⟩))) :
    bodyPostV Tryz.prog Tryz.f12 (fun e w' => DoorR w.heap.size F e w w') .ret a W := by
  subst hF
  obtain ⟨rs, h1, h2, h3⟩ := h.marks
  show LeavesV _ _ _ _ a.defers _ _
  rw [h1]
  exact leaves_marks _ (by simp) (fun W hb he => door_idle hb (by omega) he ht) (by omega) rs W h2 h3 h.below h.e0
def nthS : Nat → Code → Code
  | 0, .seq x _ => x
  | 0, c => c
  | n + 1, .seq _ y => nthS n y
  | _ + 1, c => c
/-- the n-th statement of Check's body. -/
noncomputable def stmD (n : Nat) : Code := nthS n (Tryz.f12.body.getD .skip)
/-- what a statement must bring about. -/
abbrev QD (d : Dt) (w : World) : Exit → Act → World → Prop := bodyPostV Tryz.prog Tryz.f12 (fun e w' => DoorR w.heap.size (dataE d) e w w')

set_option maxRecDepth 100000 in
theorem frameS0 (f : Nat → Value) (v1 v2 : Value) : arrF (upd ((1, v1) :: (2, v2) :: []) f) 208 = #[f 0, v1, v2, f 3, f 4, f 5, f 6, f 7, f 8, f 9, f 10, f 11, f 12, f 13, f 14, f 15, f 16, f 17, f 18, f 19, f 20, f 21, f 22, f 23, f 24, f 25, f 26, f 27, f 28, f 29, f 30, f 31, f 32, f 33, f 34, f 35, f 36, f 37, f 38, f 39, f 40, f 41, f 42, f 43, f 44, f 45, f 46, f 47, f 48, f 49, f 50, f 51, f 52, f 53, f 54, f 55, f 56, f 57, f 58, f 59, f 60, f 61, f 62, f 63, f 64, f 65, f 66, f 67, f 68, f 69, f 70, f 71, f 72, f 73, f 74, f 75, f 76, f 77, f 78, f 79, f 80, f 81, f 82, f 83, f 84, f 85, f 86, f 87, f 88, f 89, f 90, f 91, f 92, f 93, f 94, f 95, f 96, f 97, f 98, f 99, f 100, f 101, f 102, f 103, f 104, f 105, f 106, f 107, f 108, f 109, f 110, f 111, f 112, f 113, f 114, f 115, f 116, f 117, f 118, f 119, f 120, f 121, f 122, f 123, f 124, f 125, f 126, f 127, f 128, f 129, f 130, f 131, f 132, f 133, f 134, f 135, f 136, f 137, f 138, f 139, f 140, f 141, f 142, f 143, f 144, f 145, f 146, f 147, f 148, f 149, f 150, f 151, f 152, f 153, f 154, f 155, f 156, f 157, f 158, f 159, f 160, f 161, f 162, f 163, f 164, f 165, f 166, f 167, f 168, f 169, f 170, f 171, f 172, f 173, f 174, f 175, f 176, f 177, f 178, f 179, f 180, f 181, f 182, f 183, f 184, f 185, f 186, f 187, f 188, f 189, f 190, f 191, f 192, f 193, f 194, f 195, f 196, f 197, f 198, f 199, f 200, f 201, f 202, f 203, f 204, f 205, f 206, f 207] := by rfl
theorem openS0 {d : Dt} {w W : World} {a : Act} (h : Live d w [] a W) : ∃ (f : Nat → Value) (ds : List Deferred), a = { tmps := #[f 0, .pointer (some ⟨w.heap.size, 0, none⟩), .pointer (some ⟨w.heap.size + 1, 0, none⟩), f 3, f 4, f 5, f 6, f 7, f 8, f 9, f 10, f 11, f 12, f 13, f 14, f 15, f 16, f 17, f 18, f 19, f 20, f 21, f 22, f 23, f 24, f 25, f 26, f 27, f 28, f 29, f 30, f 31, f 32, f 33, f 34, f 35, f 36, f 37, f 38, f 39, f 40, f 41, f 42, f 43, f 44, f 45, f 46, f 47, f 48, f 49, f 50, f 51, f 52, f 53, f 54, f 55, f 56, f 57, f 58, f 59, f 60, f 61, f 62, f 63, f 64, f 65, f 66, f 67, f 68, f 69, f 70, f 71, f 72, f 73, f 74, f 75, f 76, f 77, f 78, f 79, f 80, f 81, f 82, f 83, f 84, f 85, f 86, f 87, f 88, f 89, f 90, f 91, f 92, f 93, f 94, f 95, f 96, f 97, f 98, f 99, f 100, f 101, f 102, f 103, f 104, f 105, f 106, f 107, f 108, f 109, f 110, f 111, f 112, f 113, f 114, f 115, f 116, f 117, f 118, f 119, f 120, f 121, f 122, f 123, f 124, f 125, f 126, f 127, f 128, f 129, f 130, f 131, f 132, f 133, f 134, f 135, f 136, f 137, f 138, f 139, f 140, f 141, f 142, f 143, f 144, f 145, f 146, f 147, f 148, f 149, f 150, f 151, f 152, f 153, f 154, f 155, f 156, f 157, f 158, f 159, f 160, f 161, f 162, f 163, f 164, f 165, f 166, f 167, f 168, f 169, f 170, f 171, f 172, f 173, f 174, f 175, f 176, f 177, f 178, f 179, f 180, f 181, f 182, f 183, f 184, f 185, f 186, f 187, f 188, f 189, f 190, f 191, f 192, f 193, f 194, f 195, f 196, f 197, f 198, f 199, f 200, f 201, f 202, f 203, f 204, f 205, f 206, f 207], defers := ds } ∧ WS d w ds W := by
  obtain ⟨tmps, ds⟩ := a
  obtain ⟨f, hf⟩ := arr_open h.size h.regs
  rw [frameS0] at hf
  dsimp only at hf
  subst hf
  exact ⟨f, ds, rfl, h.ws⟩
set_option maxRecDepth 100000 in
theorem frameS1 (f : Nat → Value) (v1 v2 v7 : Value) : arrF (upd ((1, v1) :: (2, v2) :: (7, v7) :: []) f) 208 = #[f 0, v1, v2, f 3, f 4, f 5, f 6, v7, f 8, f 9, f 10, f 11, f 12, f 13, f 14, f 15, f 16, f 17, f 18, f 19, f 20, f 21, f 22, f 23, f 24, f 25, f 26, f 27, f 28, f 29, f 30, f 31, f 32, f 33, f 34, f 35, f 36, f 37, f 38, f 39, f 40, f 41, f 42, f 43, f 44, f 45, f 46, f 47, f 48, f 49, f 50, f 51, f 52, f 53, f 54, f 55, f 56, f 57, f 58, f 59, f 60, f 61, f 62, f 63, f 64, f 65, f 66, f 67, f 68, f 69, f 70, f 71, f 72, f 73, f 74, f 75, f 76, f 77, f 78, f 79, f 80, f 81, f 82, f 83, f 84, f 85, f 86, f 87, f 88, f 89, f 90, f 91, f 92, f 93, f 94, f 95, f 96, f 97, f 98, f 99, f 100, f 101, f 102, f 103, f 104, f 105, f 106, f 107, f 108, f 109, f 110, f 111, f 112, f 113, f 114, f 115, f 116, f 117, f 118, f 119, f 120, f 121, f 122, f 123, f 124, f 125, f 126, f 127, f 128, f 129, f 130, f 131, f 132, f 133, f 134, f 135, f 136, f 137, f 138, f 139, f 140, f 141, f 142, f 143, f 144, f 145, f 146, f 147, f 148, f 149, f 150, f 151, f 152, f 153, f 154, f 155, f 156, f 157, f 158, f 159, f 160, f 161, f 162, f 163, f 164, f 165, f 166, f 167, f 168, f 169, f 170, f 171, f 172, f 173, f 174, f 175, f 176, f 177, f 178, f 179, f 180, f 181, f 182, f 183, f 184, f 185, f 186, f 187, f 188, f 189, f 190, f 191, f 192, f 193, f 194, f 195, f 196, f 197, f 198, f 199, f 200, f 201, f 202, f 203, f 204, f 205, f 206, f 207] := by rfl
theorem openS1 {d : Dt} {w W : World} {a : Act} {v7 : Value} (h : Live d w [(7, v7)] a W) : ∃ (f : Nat → Value) (ds : List Deferred), a = { tmps := #[f 0, .pointer (some ⟨w.heap.size, 0, none⟩), .pointer (some ⟨w.heap.size + 1, 0, none⟩), f 3, f 4, f 5, f 6, v7, f 8, f 9, f 10, f 11, f 12, f 13, f 14, f 15, f 16, f 17, f 18, f 19, f 20, f 21, f 22, f 23, f 24, f 25, f 26, f 27, f 28, f 29, f 30, f 31, f 32, f 33, f 34, f 35, f 36, f 37, f 38, f 39, f 40, f 41, f 42, f 43, f 44, f 45, f 46, f 47, f 48, f 49, f 50, f 51, f 52, f 53, f 54, f 55, f 56, f 57, f 58, f 59, f 60, f 61, f 62, f 63, f 64, f 65, f 66, f 67, f 68, f 69, f 70, f 71, f 72, f 73, f 74, f 75, f 76, f 77, f 78, f 79, f 80, f 81, f 82, f 83, f 84, f 85, f 86, f 87, f 88, f 89, f 90, f 91, f 92, f 93, f 94, f 95, f 96, f 97, f 98, f 99, f 100, f 101, f 102, f 103, f 104, f 105, f 106, f 107, f 108, f 109, f 110, f 111, f 112, f 113, f 114, f 115, f 116, f 117, f 118, f 119, f 120, f 121, f 122, f 123, f 124, f 125, f 126, f 127, f 128, f 129, f 130, f 131, f 132, f 133, f 134, f 135, f 136, f 137, f 138, f 139, f 140, f 141, f 142, f 143, f 144, f 145, f 146, f 147, f 148, f 149, f 150, f 151, f 152, f 153, f 154, f 155, f 156, f 157, f 158, f 159, f 160, f 161, f 162, f 163, f 164, f 165, f 166, f 167, f 168, f 169, f 170, f 171, f 172, f 173, f 174, f 175, f 176, f 177, f 178, f 179, f 180, f 181, f 182, f 183, f 184, f 185, f 186, f 187, f 188, f 189, f 190, f 191, f 192, f 193, f 194, f 195, f 196, f 197, f 198, f 199, f 200, f 201, f 202, f 203, f 204, f 205, f 206, f 207], defers := ds } ∧ WS d w ds W := by
  obtain ⟨tmps, ds⟩ := a
  obtain ⟨f, hf⟩ := arr_open h.size h.regs
  rw [frameS1] at hf
  dsimp only at hf
  subst hf
  exact ⟨f, ds, rfl, h.ws⟩
set_option maxRecDepth 100000 in
theorem frameS2 (f : Nat → Value) (v1 v2 v7 v8 : Value) : arrF (upd ((1, v1) :: (2, v2) :: (7, v7) :: (8, v8) :: []) f) 208 = #[f 0, v1, v2, f 3, f 4, f 5, f 6, v7, v8, f 9, f 10, f 11, f 12, f 13, f 14, f 15, f 16, f 17, f 18, f 19, f 20, f 21, f 22, f 23, f 24, f 25, f 26, f 27, f 28, f 29, f 30, f 31, f 32, f 33, f 34, f 35, f 36, f 37, f 38, f 39, f 40, f 41, f 42, f 43, f 44, f 45, f 46, f 47, f 48, f 49, f 50, f 51, f 52, f 53, f 54, f 55, f 56, f 57, f 58, f 59, f 60, f 61, f 62, f 63, f 64, f 65, f 66, f 67, f 68, f 69, f 70, f 71, f 72, f 73, f 74, f 75, f 76, f 77, f 78, f 79, f 80, f 81, f 82, f 83, f 84, f 85, f 86, f 87, f 88, f 89, f 90, f 91, f 92, f 93, f 94, f 95, f 96, f 97, f 98, f 99, f 100, f 101, f 102, f 103, f 104, f 105, f 106, f 107, f 108, f 109, f 110, f 111, f 112, f 113, f 114, f 115, f 116, f 117, f 118, f 119, f 120, f 121, f 122, f 123, f 124, f 125, f 126, f 127, f 128, f 129, f 130, f 131, f 132, f 133, f 134, f 135, f 136, f 137, f 138, f 139, f 140, f 141, f 142, f 143, f 144, f 145, f 146, f 147, f 148, f 149, f 150, f 151, f 152, f 153, f 154, f 155, f 156, f 157, f 158, f 159, f 160, f 161, f 162, f 163, f 164, f 165, f 166, f 167, f 168, f 169, f 170, f 171, f 172, f 173, f 174, f 175, f 176, f 177, f 178, f 179, f 180, f 181, f 182, f 183, f 184, f 185, f 186, f 187, f 188, f 189, f 190, f 191, f 192, f 193, f 194, f 195, f 196, f 197, f 198, f 199, f 200, f 201, f 202, f 203, f 204, f 205, f 206, f 207] := by rfl
theorem openS2 {d : Dt} {w W : World} {a : Act} {v7 v8 : Value} (h : Live d w [(7, v7), (8, v8)] a W) : ∃ (f : Nat → Value) (ds : List Deferred), a = { tmps := #[f 0, .pointer (some ⟨w.heap.size, 0, none⟩), .pointer (some ⟨w.heap.size + 1, 0, none⟩), f 3, f 4, f 5, f 6, v7, v8, f 9, f 10, f 11, f 12, f 13, f 14, f 15, f 16, f 17, f 18, f 19, f 20, f 21, f 22, f 23, f 24, f 25, f 26, f 27, f 28, f 29, f 30, f 31, f 32, f 33, f 34, f 35, f 36, f 37, f 38, f 39, f 40, f 41, f 42, f 43, f 44, f 45, f 46, f 47, f 48, f 49, f 50, f 51, f 52, f 53, f 54, f 55, f 56, f 57, f 58, f 59, f 60, f 61, f 62, f 63, f 64, f 65, f 66, f 67, f 68, f 69, f 70, f 71, f 72, f 73, f 74, f 75, f 76, f 77, f 78, f 79, f 80, f 81, f 82, f 83, f 84, f 85, f 86, f 87, f 88, f 89, f 90, f 91, f 92, f 93, f 94, f 95, f 96, f 97, f 98, f 99, f 100, f 101, f 102, f 103, f 104, f 105, f 106, f 107, f 108, f 109, f 110, f 111, f 112, f 113, f 114, f 115, f 116, f 117, f 118, f 119, f 120, f 121, f 122, f 123, f 124, f 125, f 126, f 127, f 128, f 129, f 130, f 131, f 132, f 133, f 134, f 135, f 136, f 137, f 138, f 139, f 140, f 141, f 142, f 143, f 144, f 145, f 146, f 147, f 148, f 149, f 150, f 151, f 152, f 153, f 154, f 155, f 156, f 157, f 158, f 159, f 160, f 161, f 162, f 163, f 164, f 165, f 166, f 167, f 168, f 169, f 170, f 171, f 172, f 173, f 174, f 175, f 176, f 177, f 178, f 179, f 180, f 181, f 182, f 183, f 184, f 185, f 186, f 187, f 188, f 189, f 190, f 191, f 192, f 193, f 194, f 195, f 196, f 197, f 198, f 199, f 200, f 201, f 202, f 203, f 204, f 205, f 206, f 207], defers := ds } ∧ WS d w ds W := by
  obtain ⟨tmps, ds⟩ := a
  obtain ⟨f, hf⟩ := arr_open h.size h.regs
  rw [frameS2] at hf
  dsimp only at hf
  subst hf
  exact ⟨f, ds, rfl, h.ws⟩
set_option maxRecDepth 100000 in
theorem frameS3 (f : Nat → Value) (v1 v2 v7 v8 v9 : Value) : arrF (upd ((1, v1) :: (2, v2) :: (7, v7) :: (8, v8) :: (9, v9) :: []) f) 208 = #[f 0, v1, v2, f 3, f 4, f 5, f 6, v7, v8, v9, f 10, f 11, f 12, f 13, f 14, f 15, f 16, f 17, f 18, f 19, f 20, f 21, f 22, f 23, f 24, f 25, f 26, f 27, f 28, f 29, f 30, f 31, f 32, f 33, f 34, f 35, f 36, f 37, f 38, f 39, f 40, f 41, f 42, f 43, f 44, f 45, f 46, f 47, f 48, f 49, f 50, f 51, f 52, f 53, f 54, f 55, f 56, f 57, f 58, f 59, f 60, f 61, f 62, f 63, f 64, f 65, f 66, f 67, f 68, f 69, f 70, f 71, f 72, f 73, f 74, f 75, f 76, f 77, f 78, f 79, f 80, f 81, f 82, f 83, f 84, f 85, f 86, f 87, f 88, f 89, f 90, f 91, f 92, f 93, f 94, f 95, f 96, f 97, f 98, f 99, f 100, f 101, f 102, f 103, f 104, f 105, f 106, f 107, f 108, f 109, f 110, f 111, f 112, f 113, f 114, f 115, f 116, f 117, f 118, f 119, f 120, f 121, f 122, f 123, f 124, f 125, f 126, f 127, f 128, f 129, f 130, f 131, f 132, f 133, f 134, f 135, f 136, f 137, f 138, f 139, f 140, f 141, f 142, f 143, f 144, f 145, f 146, f 147, f 148, f 149, f 150, f 151, f 152, f 153, f 154, f 155, f 156, f 157, f 158, f 159, f 160, f 161, f 162, f 163, f 164, f 165, f 166, f 167, f 168, f 169, f 170, f 171, f 172, f 173, f 174, f 175, f 176, f 177, f 178, f 179, f 180, f 181, f 182, f 183, f 184, f 185, f 186, f 187, f 188, f 189, f 190, f 191, f 192, f 193, f 194, f 195, f 196, f 197, f 198, f 199, f 200, f 201, f 202, f 203, f 204, f 205, f 206, f 207] := by rfl
theorem openS3 {d : Dt} {w W : World} {a : Act} {v7 v8 v9 : Value} (h : Live d w [(7, v7), (8, v8), (9, v9)] a W) : ∃ (f : Nat → Value) (ds : List Deferred), a = { tmps := #[f 0, .pointer (some ⟨w.heap.size, 0, none⟩), .pointer (some ⟨w.heap.size + 1, 0, none⟩), f 3, f 4, f 5, f 6, v7, v8, v9, f 10, f 11, f 12, f 13, f 14, f 15, f 16, f 17, f 18, f 19, f 20, f 21, f 22, f 23, f 24, f 25, f 26, f 27, f 28, f 29, f 30, f 31, f 32, f 33, f 34, f 35, f 36, f 37, f 38, f 39, f 40, f 41, f 42, f 43, f 44, f 45, f 46, f 47, f 48, f 49, f 50, f 51, f 52, f 53, f 54, f 55, f 56, f 57, f 58, f 59, f 60, f 61, f 62, f 63, f 64, f 65, f 66, f 67, f 68, f 69, f 70, f 71, f 72, f 73, f 74, f 75, f 76, f 77, f 78, f 79, f 80, f 81, f 82, f 83, f 84, f 85, f 86, f 87, f 88, f 89, f 90, f 91, f 92, f 93, f 94, f 95, f 96, f 97, f 98, f 99, f 100, f 101, f 102, f 103, f 104, f 105, f 106, f 107, f 108, f 109, f 110, f 111, f 112, f 113, f 114, f 115, f 116, f 117, f 118, f 119, f 120, f 121, f 122, f 123, f 124, f 125, f 126, f 127, f 128, f 129, f 130, f 131, f 132, f 133, f 134, f 135, f 136, f 137, f 138, f 139, f 140, f 141, f 142, f 143, f 144, f 145, f 146, f 147, f 148, f 149, f 150, f 151, f 152, f 153, f 154, f 155, f 156, f 157, f 158, f 159, f 160, f 161, f 162, f 163, f 164, f 165, f 166, f 167, f 168, f 169, f 170, f 171, f 172, f 173, f 174, f 175, f 176, f 177, f 178, f 179, f 180, f 181, f 182, f 183, f 184, f 185, f 186, f 187, f 188, f 189, f 190, f 191, f 192, f 193, f 194, f 195, f 196, f 197, f 198, f 199, f 200, f 201, f 202, f 203, f 204, f 205, f 206, f 207], defers := ds } ∧ WS d w ds W := by
  obtain ⟨tmps, ds⟩ := a
  obtain ⟨f, hf⟩ := arr_open h.size h.regs
  rw [frameS3] at hf
  dsimp only at hf
  subst hf
  exact ⟨f, ds, rfl, h.ws⟩
set_option maxRecDepth 100000 in
theorem frameS4 (f : Nat → Value) (v1 v2 v7 v8 v9 v10 : Value) : arrF (upd ((1, v1) :: (2, v2) :: (7, v7) :: (8, v8) :: (9, v9) :: (10, v10) :: []) f) 208 = #[f 0, v1, v2, f 3, f 4, f 5, f 6, v7, v8, v9, v10, f 11, f 12, f 13, f 14, f 15, f 16, f 17, f 18, f 19, f 20, f 21, f 22, f 23, f 24, f 25, f 26, f 27, f 28, f 29, f 30, f 31, f 32, f 33, f 34, f 35, f 36, f 37, f 38, f 39, f 40, f 41, f 42, f 43, f 44, f 45, f 46, f 47, f 48, f 49, f 50, f 51, f 52, f 53, f 54, f 55, f 56, f 57, f 58, f 59, f 60, f 61, f 62, f 63, f 64, f 65, f 66, f 67, f 68, f 69, f 70, f 71, f 72, f 73, f 74, f 75, f 76, f 77, f 78, f 79, f 80, f 81, f 82, f 83, f 84, f 85, f 86, f 87, f 88, f 89, f 90, f 91, f 92, f 93, f 94, f 95, f 96, f 97, f 98, f 99, f 100, f 101, f 102, f 103, f 104, f 105, f 106, f 107, f 108, f 109, f 110, f 111, f 112, f 113, f 114, f 115, f 116, f 117, f 118, f 119, f 120, f 121, f 122, f 123, f 124, f 125, f 126, f 127, f 128, f 129, f 130, f 131, f 132, f 133, f 134, f 135, f 136, f 137, f 138, f 139, f 140, f 141, f 142, f 143, f 144, f 145, f 146, f 147, f 148, f 149, f 150, f 151, f 152, f 153, f 154, f 155, f 156, f 157, f 158, f 159, f 160, f 161, f 162, f 163, f 164, f 165, f 166, f 167, f 168, f 169, f 170, f 171, f 172, f 173, f 174, f 175, f 176, f 177, f 178, f 179, f 180, f 181, f 182, f 183, f 184, f 185, f 186, f 187, f 188, f 189, f 190, f 191, f 192, f 193, f 194, f 195, f 196, f 197, f 198, f 199, f 200, f 201, f 202, f 203, f 204, f 205, f 206, f 207] := by rfl
theorem openS4 {d : Dt} {w W : World} {a : Act} {v7 v8 v9 v10 : Value} (h : Live d w [(7, v7), (8, v8), (9, v9), (10, v10)] a W) : ∃ (f : Nat → Value) (ds : List Deferred), a = { tmps := #[f 0, .pointer (some ⟨w.heap.size, 0, none⟩), .pointer (some ⟨w.heap.size + 1, 0, none⟩), f 3, f 4, f 5, f 6, v7, v8, v9, v10, f 11, f 12, f 13, f 14, f 15, f 16, f 17, f 18, f 19, f 20, f 21, f 22, f 23, f 24, f 25, f 26, f 27, f 28, f 29, f 30, f 31, f 32, f 33, f 34, f 35, f 36, f 37, f 38, f 39, f 40, f 41, f 42, f 43, f 44, f 45, f 46, f 47, f 48, f 49, f 50, f 51, f 52, f 53, f 54, f 55, f 56, f 57, f 58, f 59, f 60, f 61, f 62, f 63, f 64, f 65, f 66, f 67, f 68, f 69, f 70, f 71, f 72, f 73, f 74, f 75, f 76, f 77, f 78, f 79, f 80, f 81, f 82, f 83, f 84, f 85, f 86, f 87, f 88, f 89, f 90, f 91, f 92, f 93, f 94, f 95, f 96, f 97, f 98, f 99, f 100, f 101, f 102, f 103, f 104, f 105, f 106, f 107, f 108, f 109, f 110, f 111, f 112, f 113, f 114, f 115, f 116, f 117, f 118, f 119, f 120, f 121, f 122, f 123, f 124, f 125, f 126, f 127, f 128, f 129, f 130, f 131, f 132, f 133, f 134, f 135, f 136, f 137, f 138, f 139, f 140, f 141, f 142, f 143, f 144, f 145, f 146, f 147, f 148, f 149, f 150, f 151, f 152, f 153, f 154, f 155, f 156, f 157, f 158, f 159, f 160, f 161, f 162, f 163, f 164, f 165, f 166, f 167, f 168, f 169, f 170, f 171, f 172, f 173, f 174, f 175, f 176, f 177, f 178, f 179, f 180, f 181, f 182, f 183, f 184, f 185, f 186, f 187, f 188, f 189, f 190, f 191, f 192, f 193, f 194, f 195, f 196, f 197, f 198, f 199, f 200, f 201, f 202, f 203, f 204, f 205, f 206, f 207], defers := ds } ∧ WS d w ds W := by
  obtain ⟨tmps, ds⟩ := a
  obtain ⟨f, hf⟩ := arr_open h.size h.regs
  rw [frameS4] at hf
  dsimp only at hf
  subst hf
  exact ⟨f, ds, rfl, h.ws⟩
end Go.Proofs.YthhjgndaiimgjaaGreatDoor
end
/-! data.Check: the first statements. -/
section
set_option linter.unusedVariables false
set_option linter.unusedSimpArgs false
namespace Go.Proofs.YthhjgndaiimgjaaGreatDoor
open Go.RowKit Gno
theorem yes_out (e : Int) : Hid (∀ w, Calls Tryz.prog 35 #[.bool true, .int .i64 e] w fun x w' => x = .returned (.tuple #[]) ∧ w = w') := Lib.hid (fun w => must_yes e w)
theorem no_out (e : Int) : Hid (∀ w, Calls Tryz.prog 35 #[.bool false, .int .i64 e] w fun x w' => x = .panicked (thrown e) ∧ w = w') := Lib.hid (fun w => must_no e w)
set_option maxRecDepth 100000 in
set_option maxHeartbeats 4000000 in
theorem st2 {d : Dt} {w W : World} {a : Act} {K : Act → World → Prop} (hL : Live d w [] a W) (hK : ∀ a' W', manyD d = false → Live d w [] a' W' → K a' W') :
    (stmD 2).wp Tryz.prog (Exit.then K (QD d w)) a W := by
  obtain ⟨f, ds, rfl, hws⟩ := openS0 hL
  clear hL
  obtain ⟨c0, c1, c2⟩ := hws.cells
  have HY := yes_out 2
  have HN := no_out 2
  have HW := Lib.hid hws
  have HK := Lib.hid hK
  clear hws hK
  conv => arg 2; whnf
  by_cases h1 : d.sn ≤ 3
  · by_cases h2 : d.zn ≤ 5
    · by_cases h3 : d.ln ≤ 4
      · have g1 : decide ((d.sn : Int) ≤ 3) = true := by simp; omega
        have g2 : decide ((d.zn : Int) ≤ 5) = true := by simp; omega
        have g3 : decide ((d.ln : Int) ≤ 4) = true := by simp; omega
        have HM := Lib.hid (manyD_no h1 h2 h3)
        clear h1 h2 h3
        go_wp2_with (go_at_call 35; (with_reducible refine (HY.out _).mono ?_); rintro e w4 ⟨rfl, rfl⟩)
        exact HK.out _ _ HM.out ⟨rfl, ⟨rfl, rfl, trivial⟩, HW.out⟩
      · have g1 : decide ((d.sn : Int) ≤ 3) = true := by simp; omega
        have g2 : decide ((d.zn : Int) ≤ 5) = true := by simp; omega
        have g3 : decide ((d.ln : Int) ≤ 4) = false := by simp; omega
        have HM : Hid (dataE d = 2) := Lib.hid (by unfold dataE; rw [if_pos (by unfold manyD; simp [h3])])
        clear h1 h2 h3
        go_wp2_with (go_at_call 35; (with_reducible refine (HN.out _).mono ?_); rintro e w4 ⟨rfl, rfl⟩)
        exact door_out HM.out HW.out rfl
    · have g1 : decide ((d.sn : Int) ≤ 3) = true := by simp; omega
      have g2 : decide ((d.zn : Int) ≤ 5) = false := by simp; omega
      have HM : Hid (dataE d = 2) := Lib.hid (by unfold dataE; rw [if_pos (by unfold manyD; simp [h2])])
      clear h1 h2
      go_wp2_with (go_at_call 35; (with_reducible refine (HN.out _).mono ?_); rintro e w4 ⟨rfl, rfl⟩)
      exact door_out HM.out HW.out rfl
  · have g1 : decide ((d.sn : Int) ≤ 3) = false := by simp; omega
    have HM : Hid (dataE d = 2) := Lib.hid (by unfold dataE; rw [if_pos (by unfold manyD; simp [h1])])
    clear h1
    go_wp2_with (go_at_call 35; (with_reducible refine (HN.out _).mono ?_); rintro e w4 ⟨rfl, rfl⟩)
    exact door_out HM.out HW.out rfl
end Go.Proofs.YthhjgndaiimgjaaGreatDoor
end
/-! data.Check: the four lists of names. -/
section
set_option linter.unusedVariables false
set_option linter.unusedSimpArgs false
namespace Go.Proofs.YthhjgndaiimgjaaGreatDoor
open Go.RowKit Gno
/-- a made slice of texts, as it lies between two statements. -/
def Sl (W : World) (n : Nat) (l : List ByteArray) (v : Value) : Prop := ∃ A c, v = .slice A n c ∧ StrsAt W W.heap.size A n l ∧ (A = none → n = 0 ∧ c = 0)
theorem Sl.step {W W' : World} {n : Nat} {l : List ByteArray} {v : Value} (h : Sl W n l v) (hb : Below W.heap.size W W') : Sl W' n l v := by
  obtain ⟨A, c, h1, h2, h3⟩ := h
  exact ⟨A, c, h1, (h2.below hb (Nat.le_refl _)).more hb.size, h3⟩
set_option maxRecDepth 100000 in
set_option maxHeartbeats 4000000 in
theorem st5 {d : Dt} {w W : World} {a : Act} {K : Act → World → Prop} (hD : DataAt w w.heap.size d) (hM : manyD d = false) (hL : Live d w [] a W) (hK : ∀ a' W' v7, Live d w [(7, v7)] a' W' → Sl W' d.sn (sNames d) v7 → Below W.heap.size W W' → K a' W') :
    (stmD 5).wp Tryz.prog (Exit.then K (QD d w)) a W := by
  obtain ⟨f, ds, rfl, hws⟩ := openS0 hL
  clear hL
  obtain ⟨c0, c1, c2⟩ := hws.cells
  have HW := Lib.hid hws
  have HK := Lib.hid hK
  have hle := manyD_le hM
  have C := Lib.hid (each_Set_name d.sA d.sn d.sc d.ss W (hD.next hws.below).1 (by omega))
  clear hws hK hD hM hle
  conv => arg 2; whnf
  go_wp2_with (go_at_call 36; (with_reducible refine C.out.mono ?_); rintro e w4 ⟨A', c', rfl, hs, hn, hb⟩)
  exact HK.out _ _ _ ⟨rfl, ⟨rfl, rfl, rfl, trivial⟩, HW.out.step hb⟩ ⟨A', c', rfl, hs, hn⟩ hb
set_option maxRecDepth 100000 in
set_option maxHeartbeats 4000000 in
theorem st6 {d : Dt} {w W : World} {a : Act} {K : Act → World → Prop} {v7 : Value} (hD : DataAt w w.heap.size d) (hM : manyD d = false) (hL : Live d w [(7, v7)] a W) (hK : ∀ a' W' v8, Live d w [(7, v7), (8, v8)] a' W' → Sl W' d.zn (zNames d) v8 → Below W.heap.size W W' → K a' W') :
    (stmD 6).wp Tryz.prog (Exit.then K (QD d w)) a W := by
  obtain ⟨f, ds, rfl, hws⟩ := openS1 hL
  clear hL
  obtain ⟨c0, c1, c2⟩ := hws.cells
  have HW := Lib.hid hws
  have HK := Lib.hid hK
  have hle := manyD_le hM
  have C := Lib.hid (each_Zone_name d.zA d.zn d.zc d.zs W (hD.next hws.below).2.1 (by omega))
  clear hws hK hD hM hle
  conv => arg 2; whnf
  go_wp2_with (go_at_call 38; (with_reducible refine C.out.mono ?_); rintro e w4 ⟨A', c', rfl, hs, hn, hb⟩)
  exact HK.out _ _ _ ⟨rfl, ⟨rfl, rfl, rfl, rfl, trivial⟩, HW.out.step hb⟩ ⟨A', c', rfl, hs, hn⟩ hb
set_option maxRecDepth 100000 in
set_option maxHeartbeats 4000000 in
theorem st7 {d : Dt} {w W : World} {a : Act} {K : Act → World → Prop} {v7 v8 : Value} (hD : DataAt w w.heap.size d) (hM : manyD d = false) (hL : Live d w [(7, v7), (8, v8)] a W) (hK : ∀ a' W' v9, Live d w [(7, v7), (8, v8), (9, v9)] a' W' → Sl W' d.ln (lNames d) v9 → Below W.heap.size W W' → K a' W') :
    (stmD 7).wp Tryz.prog (Exit.then K (QD d w)) a W := by
  obtain ⟨f, ds, rfl, hws⟩ := openS2 hL
  clear hL
  obtain ⟨c0, c1, c2⟩ := hws.cells
  have HW := Lib.hid hws
  have HK := Lib.hid hK
  have hle := manyD_le hM
  have C := Lib.hid (each_Link_name d.lA d.ln d.lc d.ls W (hD.next hws.below).2.2.1 (by omega))
  clear hws hK hD hM hle
  conv => arg 2; whnf
  go_wp2_with (go_at_call 40; (with_reducible refine C.out.mono ?_); rintro e w4 ⟨A', c', rfl, hs, hn, hb⟩)
  exact HK.out _ _ _ ⟨rfl, ⟨rfl, rfl, rfl, rfl, rfl, trivial⟩, HW.out.step hb⟩ ⟨A', c', rfl, hs, hn⟩ hb
set_option maxRecDepth 100000 in
set_option maxHeartbeats 4000000 in
theorem st8 {d : Dt} {w W : World} {a : Act} {K : Act → World → Prop} {v7 v8 v9 : Value} (hD : DataAt w w.heap.size d) (hM : manyD d = false) (hL : Live d w [(7, v7), (8, v8), (9, v9)] a W) (hK : ∀ a' W' v10, Live d w [(7, v7), (8, v8), (9, v9), (10, v10)] a' W' → Sl W' d.ln (lTos d) v10 → Below W.heap.size W W' → K a' W') :
    (stmD 8).wp Tryz.prog (Exit.then K (QD d w)) a W := by
  obtain ⟨f, ds, rfl, hws⟩ := openS3 hL
  clear hL
  obtain ⟨c0, c1, c2⟩ := hws.cells
  have HW := Lib.hid hws
  have HK := Lib.hid hK
  have hle := manyD_le hM
  have C := Lib.hid (each_Link_to d.lA d.ln d.lc d.ls W (hD.next hws.below).2.2.1 (by omega))
  clear hws hK hD hM hle
  conv => arg 2; whnf
  go_wp2_with (go_at_call 40; (with_reducible refine C.out.mono ?_); rintro e w4 ⟨A', c', rfl, hs, hn, hb⟩)
  exact HK.out _ _ _ ⟨rfl, ⟨rfl, rfl, rfl, rfl, rfl, rfl, trivial⟩, HW.out.step hb⟩ ⟨A', c', rfl, hs, hn⟩ hb
end Go.Proofs.YthhjgndaiimgjaaGreatDoor
end
/-! data.Check: the names, each; alike ones. -/
section
set_option linter.unusedVariables false
set_option linter.unusedSimpArgs false
namespace Go.Proofs.YthhjgndaiimgjaaGreatDoor
open Go.RowKit Gno
theorem size_sNames {w : World} {B : Nat} {d : Dt} (hD : DataAt w B d) : ∀ s ∈ sNames d, s.size ≤ maxLen := by
  intro s hs
  obtain ⟨x, hx, rfl⟩ := List.mem_map.1 hs
  obtain ⟨j, hj⟩ := List.getElem?_of_mem hx
  have hjl : j < d.sn := by have := (List.getElem?_eq_some_iff.1 hj).1; rw [hD.1.1] at this; exact this
  obtain ⟨_, _, q, _, _, hq, hq1, _⟩ := sets_get hD.1 hjl
  rw [hj] at hq; injection hq with hq; rw [hq]; exact hq1
theorem size_zNames {w : World} {B : Nat} {d : Dt} (hD : DataAt w B d) : ∀ s ∈ zNames d, s.size ≤ maxLen := by
  intro s hs
  obtain ⟨x, hx, rfl⟩ := List.mem_map.1 hs
  obtain ⟨j, hj⟩ := List.getElem?_of_mem hx
  have hjl : j < d.zn := by have := (List.getElem?_eq_some_iff.1 hj).1; rw [hD.2.1.1] at this; exact this
  obtain ⟨_, _, q, _, _, hq, hq1, _⟩ := zones_get hD.2.1 hjl
  rw [hj] at hq; injection hq with hq; rw [hq]; exact hq1
theorem size_lNames {w : World} {B : Nat} {d : Dt} (hD : DataAt w B d) : ∀ s ∈ lNames d, s.size ≤ maxLen := by
  intro s hs
  obtain ⟨x, hx, rfl⟩ := List.mem_map.1 hs
  obtain ⟨j, hj⟩ := List.getElem?_of_mem hx
  have hjl : j < d.ln := by have := (List.getElem?_eq_some_iff.1 hj).1; rw [hD.2.2.1.1] at this; exact this
  obtain ⟨_, _, q, _, _, hq, hq1, _⟩ := links_get hD.2.2.1 hjl
  rw [hj] at hq; injection hq with hq; rw [hq]; exact hq1
theorem size_lTos {w : World} {B : Nat} {d : Dt} (hD : DataAt w B d) : ∀ s ∈ lTos d, s.size ≤ maxLen := by
  intro s hs
  obtain ⟨x, hx, rfl⟩ := List.mem_map.1 hs
  obtain ⟨j, hj⟩ := List.getElem?_of_mem hx
  have hjl : j < d.ln := by have := (List.getElem?_eq_some_iff.1 hj).1; rw [hD.2.2.1.1] at this; exact this
  obtain ⟨_, _, q, _, _, hq, _, hq1, _⟩ := links_get hD.2.2.1 hjl
  rw [hj] at hq; injection hq with hq; rw [hq]; exact hq1
theorem size_all {w : World} {B : Nat} {d : Dt} (hD : DataAt w B d) : ∀ s ∈ allNames d, s.size ≤ maxLen := by
  intro s hs
  unfold allNames at hs
  simp only [List.mem_append, List.append_nil] at hs
  rcases hs with h | h | h | h
  · exact size_sNames hD s h
  · exact size_zNames hD s h
  · exact size_lNames hD s h
  · exact size_lTos hD s h
/-- four slices in one block. -/
theorem pts4 {W : World} {n7 n8 n9 n0 c7 c8 c9 c0 : Nat} {A7 A8 A9 A0 : Option Addr} {l7 l8 l9 l0 : List ByteArray} {T : TypeId}
    (h7 : StrsAt W W.heap.size A7 n7 l7) (k7 : A7 = none → n7 = 0 ∧ c7 = 0) (h8 : StrsAt W W.heap.size A8 n8 l8) (k8 : A8 = none → n8 = 0 ∧ c8 = 0)
    (h9 : StrsAt W W.heap.size A9 n9 l9) (k9 : A9 = none → n9 = 0 ∧ c9 = 0) (h0 : StrsAt W W.heap.size A0 n0 l0) (k0 : A0 = none → n0 = 0 ∧ c0 = 0) :
    PtsAt (W.alloc (.cells #[.slice A7 n7 c7, .slice A8 n8 c8, .slice A9 n9 c9, .slice A0 n0 c0] T)) (W.alloc (.cells #[.slice A7 n7 c7, .slice A8 n8 c8, .slice A9 n9 c9, .slice A0 n0 c0] T)).heap.size W.heap.size
      [⟨A7, n7, c7, l7⟩, ⟨A8, n8, c8, l8⟩, ⟨A9, n9, c9, l9⟩, ⟨A0, n0, c0, l0⟩] := by
  have hb : Below W.heap.size W (W.alloc (.cells #[.slice A7 n7 c7, .slice A8 n8 c8, .slice A9 n9 c9, .slice A0 n0 c0] T)) := (Below.refl _ _).alloc (Nat.le_refl _) _
  refine ⟨by simp, fun j p hp => ?_⟩
  match j, hp with
  | 0, hp => simp at hp; subst hp; exact ⟨by simp, (h7.below hb (Nat.le_refl _)).more hb.size, k7⟩
  | 1, hp => simp at hp; subst hp; exact ⟨by simp, (h8.below hb (Nat.le_refl _)).more hb.size, k8⟩
  | 2, hp => simp at hp; subst hp; exact ⟨by simp, (h9.below hb (Nat.le_refl _)).more hb.size, k9⟩
  | 3, hp => simp at hp; subst hp; exact ⟨by simp, (h0.below hb (Nat.le_refl _)).more hb.size, k0⟩
  | j + 4, hp => simp at hp
theorem pts2 {W : World} {n7 n8 c7 c8 : Nat} {A7 A8 : Option Addr} {l7 l8 : List ByteArray} {T : TypeId}
    (h7 : StrsAt W W.heap.size A7 n7 l7) (k7 : A7 = none → n7 = 0 ∧ c7 = 0) (h8 : StrsAt W W.heap.size A8 n8 l8) (k8 : A8 = none → n8 = 0 ∧ c8 = 0) :
    PtsAt (W.alloc (.cells #[.slice A7 n7 c7, .slice A8 n8 c8] T)) (W.alloc (.cells #[.slice A7 n7 c7, .slice A8 n8 c8] T)).heap.size W.heap.size [⟨A7, n7, c7, l7⟩, ⟨A8, n8, c8, l8⟩] := by
  have hb : Below W.heap.size W (W.alloc (.cells #[.slice A7 n7 c7, .slice A8 n8 c8] T)) := (Below.refl _ _).alloc (Nat.le_refl _) _
  refine ⟨by simp, fun j p hp => ?_⟩
  match j, hp with
  | 0, hp => simp at hp; subst hp; exact ⟨by simp, (h7.below hb (Nat.le_refl _)).more hb.size, k7⟩
  | 1, hp => simp at hp; subst hp; exact ⟨by simp, (h8.below hb (Nat.le_refl _)).more hb.size, k8⟩
  | j + 2, hp => simp at hp
set_option maxRecDepth 100000 in
set_option maxHeartbeats 8000000 in
theorem st9 {d : Dt} {w W : World} {a : Act} {K : Act → World → Prop} {v7 v8 v9 v10 : Value} (hD : DataAt w w.heap.size d) (hM : manyD d = false) (hE : dataE d = dE3 d)
    (hL : Live d w [(7, v7), (8, v8), (9, v9), (10, v10)] a W) (h7 : Sl W d.sn (sNames d) v7) (h8 : Sl W d.zn (zNames d) v8) (h9 : Sl W d.ln (lNames d) v9) (h0 : Sl W d.ln (lTos d) v10)
    (hK : ∀ a' W', anyI (fun _ => badNm) (allNames d) = false → Live d w [(7, v7), (8, v8), (9, v9), (10, v10)] a' W' → Below W.heap.size W W' → K a' W') :
    (stmD 9).wp Tryz.prog (Exit.then K (QD d w)) a W := by
  obtain ⟨A7, c7, rfl, h7, k7⟩ := h7
  obtain ⟨A8, c8, rfl, h8, k8⟩ := h8
  obtain ⟨A9, c9, rfl, h9, k9⟩ := h9
  obtain ⟨A0, c0, rfl, h0, k0⟩ := h0
  obtain ⟨f, ds, rfl, hws⟩ := openS4 hL
  clear hL
  have HY := yes_out 5
  have HN := no_out 5
  have HW := Lib.hid hws
  have HK := Lib.hid hK
  have HE := Lib.hid hE
  have hle := manyD_le hM
  have HS := Lib.hid (size_all hD)
  have hb0 : Below W.heap.size W (W.alloc (.cells #[.slice A7 d.sn c7, .slice A8 d.zn c8, .slice A9 d.ln c9, .slice A0 d.ln c0] 63)) := (Below.refl _ _).alloc (Nat.le_refl _) _
  have HB0 := Lib.hid hb0
  have hT : total [⟨A7, d.sn, c7, sNames d⟩, ⟨A8, d.zn, c8, zNames d⟩, ⟨A9, d.ln, c9, lNames d⟩, ⟨A0, d.ln, c0, lTos d⟩] ≤ 1000 := by simp [total]; omega
  have C := Lib.hid (concat_any W.heap.size 4 _ _ (pts4 (T := 63) h7 k7 h8 k8 h9 k9 h0 k0) rfl (by omega) (by omega))
  have HT := Lib.hid hT
  have HF : Hid (flat [⟨A7, d.sn, c7, sNames d⟩, ⟨A8, d.zn, c8, zNames d⟩, ⟨A9, d.ln, c9, lNames d⟩, ⟨A0, d.ln, c0, lTos d⟩] = allNames d) := Lib.hid rfl
  obtain ⟨m, hm⟩ : ∃ m, m = total [⟨A7, d.sn, c7, sNames d⟩, ⟨A8, d.zn, c8, zNames d⟩, ⟨A9, d.ln, c9, lNames d⟩, ⟨A0, d.ln, c0, lTos d⟩] := ⟨_, rfl⟩
  rw [HF.out, ← hm] at C
  have hm1 : m ≤ 1000 := by rw [hm]; exact HT.out
  clear hws hK hE hD hM hle hT hm HT HF h7 h8 h9 h0 k7 k8 k9 k0 hb0
  conv => arg 2; whnf
  go_wp2_with (go_at_call 43; (with_reducible refine C.out.mono ?_); rintro e w4 ⟨v, rfl, ho, hb⟩; obtain ⟨A, c, rfl, hs, hnn⟩ := ownsRow_strs2 ho (by unfold maxLen; omega); clear ho hnn)
  have hb1 : Below W.heap.size W w4 := HB0.out.trans (hb.mono HB0.out.size)
  have HR := Lib.hid hs
  have HLE := Lib.hid hs.1
  clear hs hb
  go_loopw [102] (fun b wr => ∃ i : Nat, i ≤ m ∧ b = .int .i64 i ∧ Hid (anyTo (atI (fun _ => badNm) (allNames d)) i = false) ∧ Below w4.heap.size w4 wr) (fun b _ => m - (intOf b).toNat)
  case atStart => exact ⟨0, Nat.zero_le _, rfl, Lib.hid rfl, Below.refl _ _⟩
  case round =>
    obtain ⟨i, hi, rfl, hfi, hb⟩ := hrel
    by_cases hit : i < m
    · obtain ⟨b, o, s, rfl, hbB, hq, hq2⟩ := HR.out.get hit
      have HQ := Lib.hid hq
      have e0 := hq2 _ hb
      have NA1 := name_any s wr (HS.out s (List.mem_of_getElem? hq))
      clear hq hq2
      cases hnm : nameOk s
      · rw [hnm] at NA1
        have NA := Lib.hid NA1
        have HM : Hid (dataE d = 5) := Lib.hid (by rw [HE.out]; unfold dE3; rw [if_pos (anyI_yes HQ.out (by unfold badNm; simp [hnm]))])
        clear hnm hfi NA1
        go_wp2_with (first
          | (go_at_call 44; (with_reducible refine NA.out.mono ?_); rintro e w5 ⟨rfl, hb5⟩; have hb6 := hb.trans (hb5.mono hb.size); clear hb5)
          | (go_at_call 35; (with_reducible refine (HN.out _).mono ?_); rintro e w6 ⟨rfl, rfl⟩))
        exact door_out HM.out (HW.out.step (hb1.trans (hb6.mono hb1.size))) rfl
      · rw [hnm] at NA1
        have NA := Lib.hid NA1
        have HM := Lib.hid (anyI_no (p := fun _ => badNm) HQ.out hfi.out (by unfold badNm; simp [hnm]))
        clear hnm hfi NA1
        go_wp2_with (first
          | (go_at_call 44; (with_reducible refine NA.out.mono ?_); rintro e w5 ⟨rfl, hb5⟩; have hb6 := hb.trans (hb5.mono hb.size); clear hb5)
          | (go_at_call 35; (with_reducible refine (HY.out _).mono ?_); rintro e w6 ⟨rfl, rfl⟩))
        go_roundw
        case rel => exact ⟨i + 1, by omega, by go_num, HM, hb6⟩
        case measure => simp [intOf]; omega
    · have HM := Lib.hid (anyI_end (by rw [HLE.out]; omega) (by rw [HLE.out]; exact hi) hfi.out)
      clear hfi
      go_wp2
      have hb2 := hb1.trans (hb.mono hb1.size)
      exact HK.out _ _ HM.out ⟨rfl, ⟨rfl, rfl, rfl, rfl, rfl, rfl, trivial⟩, HW.out.step hb2⟩ hb2
end Go.Proofs.YthhjgndaiimgjaaGreatDoor
end
/-! data.Check: no two alike; the rules of the sets. -/
section
set_option linter.unusedVariables false
set_option linter.unusedSimpArgs false
namespace Gno
open Go
theorem setsE_drop {l : List St} {i : Nat} {s : St} (hs : l[i]? = some s) : (firstE s.rs ≠ 0 → setsE (l.drop i) = firstE s.rs) ∧ (firstE s.rs = 0 → setsE (l.drop i) = setsE (l.drop (i + 1))) := by
  have hi : i < l.length := (List.getElem?_eq_some_iff.1 hs).1
  have he : l[i] = s := (List.getElem?_eq_some_iff.1 hs).2
  rw [List.drop_eq_getElem_cons hi, he]
  exact ⟨fun h => by rw [setsE, if_pos h], fun h => by rw [setsE, if_neg (by omega)]⟩
end Gno
namespace Go.Proofs.YthhjgndaiimgjaaGreatDoor
open Go.RowKit Gno
set_option maxRecDepth 100000 in
set_option maxHeartbeats 8000000 in
theorem st10 {d : Dt} {w W : World} {a : Act} {K : Act → World → Prop} {v7 v8 v9 v10 : Value} (hD : DataAt w w.heap.size d) (hM : manyD d = false) (hE : dataE d = dE4 d)
    (hL : Live d w [(7, v7), (8, v8), (9, v9), (10, v10)] a W) (h7 : Sl W d.sn (sNames d) v7) (h8 : Sl W d.zn (zNames d) v8) (h9 : Sl W d.ln (lNames d) v9)
    (hK : ∀ a' W', (dup (sNames d) || dup (zNames d ++ lNames d)) = false → Live d w [(7, v7), (8, v8), (9, v9), (10, v10)] a' W' → Below W.heap.size W W' → K a' W') :
    (stmD 10).wp Tryz.prog (Exit.then K (QD d w)) a W := by
  obtain ⟨A7, c7, rfl, h7, k7⟩ := h7
  obtain ⟨A8, c8, rfl, h8, k8⟩ := h8
  obtain ⟨A9, c9, rfl, h9, k9⟩ := h9
  obtain ⟨f, ds, rfl, hws⟩ := openS4 hL
  clear hL
  have HY := yes_out 6
  have HN := no_out 6
  have HW := Lib.hid hws
  have HK := Lib.hid hK
  have HE := Lib.hid hE
  have hle := manyD_le hM
  have HS := Lib.hid (size_sNames hD)
  have HZ := Lib.hid (size_zNames hD)
  have HLn := Lib.hid (size_lNames hD)
  have AL1 := alike_any A7 d.sn c7 (sNames d) W h7 (by omega) HS.out
  have HC : Hid (∀ W1, Below W.heap.size W W1 → Calls Tryz.prog 43 #[.slice (some ⟨W1.heap.size, 0, none⟩) 2 2] (W1.alloc (.cells #[.slice A8 d.zn c8, .slice A9 d.ln c9] 63)) fun e w' =>
      ∃ A c n, e = .returned (.slice A n c) ∧ n ≤ 1000 ∧ StrsAt w' w'.heap.size A n (zNames d ++ lNames d) ∧ Below W.heap.size W w') := Lib.hid (fun W1 hb => by
    have hb0 : Below W.heap.size W (W1.alloc (.cells #[.slice A8 d.zn c8, .slice A9 d.ln c9] 63)) := hb.alloc hb.size _
    have hT : total [⟨A8, d.zn, c8, zNames d⟩, ⟨A9, d.ln, c9, lNames d⟩] ≤ 1000 := by simp [total]; omega
    have hF : flat [⟨A8, d.zn, c8, zNames d⟩, ⟨A9, d.ln, c9, lNames d⟩] = zNames d ++ lNames d := by simp [flat]
    refine (concat_any W1.heap.size 2 _ _ (pts2 (T := 63) ((h8.below hb (Nat.le_refl _)).more hb.size) k8 ((h9.below hb (Nat.le_refl _)).more hb.size) k9) rfl (by omega) (by omega)).mono ?_
    rintro e w' ⟨v, rfl, ho, hb1⟩
    obtain ⟨A, c, rfl, hs, _⟩ := ownsRow_strs2 ho (by unfold maxLen; omega)
    rw [hF] at hs
    exact ⟨A, c, _, rfl, hT, hs, hb0.trans (hb1.mono hb0.size)⟩)
  clear hws hK hE hD hM hle h7 h8 h9 k7 k8 k9
  conv => arg 2; whnf
  cases hd1 : dup (sNames d)
  · rw [hd1] at AL1
    have AL := Lib.hid AL1
    have HD1 := Lib.hid hd1
    clear AL1 hd1
    cases hd2 : dup (zNames d ++ lNames d)
    · have HD2 := Lib.hid hd2
      have HM : Hid ((dup (sNames d) || dup (zNames d ++ lNames d)) = false) := Lib.hid (by rw [HD1.out, HD2.out]; rfl)
      clear hd2
      go_wp2_with (first
        | (go_at_call 45; (with_reducible refine AL.out.mono ?_); rintro e w4 ⟨rfl, hb4⟩)
        | (go_at_call 43; (with_reducible refine (HC.out _ hb4).mono ?_); rintro e w5 ⟨A, c, n, rfl, hn, hs, hb5⟩; have AL2 := alike_any A n c _ w5 hs (by omega) (fun s h => (List.mem_append.1 h).elim (HZ.out s) (HLn.out s)); rw [HD2.out] at AL2; have AL2 := Lib.hid AL2)
        | (go_at_call 45; (with_reducible refine AL2.out.mono ?_); rintro e w6 ⟨rfl, hb6⟩)
        | (go_at_call 35; (with_reducible refine (HY.out _).mono ?_); rintro e w7 ⟨rfl, rfl⟩))
      have hb := hb5.trans (hb6.mono hb5.size)
      exact HK.out _ _ HM.out ⟨rfl, ⟨rfl, rfl, rfl, rfl, rfl, rfl, trivial⟩, HW.out.step hb⟩ hb
    · have HD2 := Lib.hid hd2
      have HM : Hid (dataE d = 6) := Lib.hid (by rw [HE.out]; unfold dE4; rw [if_pos (by rw [HD2.out]; simp)])
      clear hd2
      go_wp2_with (first
        | (go_at_call 45; (with_reducible refine AL.out.mono ?_); rintro e w4 ⟨rfl, hb4⟩)
        | (go_at_call 43; (with_reducible refine (HC.out _ hb4).mono ?_); rintro e w5 ⟨A, c, n, rfl, hn, hs, hb5⟩; have AL2 := alike_any A n c _ w5 hs (by omega) (fun s h => (List.mem_append.1 h).elim (HZ.out s) (HLn.out s)); rw [HD2.out] at AL2; have AL2 := Lib.hid AL2)
        | (go_at_call 45; (with_reducible refine AL2.out.mono ?_); rintro e w6 ⟨rfl, hb6⟩)
        | (go_at_call 35; (with_reducible refine (HN.out _).mono ?_); rintro e w7 ⟨rfl, rfl⟩))
      have hb := hb5.trans (hb6.mono hb5.size)
      exact door_out HM.out (HW.out.step hb) rfl
  · rw [hd1] at AL1
    have AL := Lib.hid AL1
    have HM : Hid (dataE d = 6) := Lib.hid (by rw [HE.out]; unfold dE4; rw [if_pos (by rw [hd1]; simp)])
    clear AL1 hd1
    go_wp2_with (first
      | (go_at_call 45; (with_reducible refine AL.out.mono ?_); rintro e w4 ⟨rfl, hb4⟩)
      | (go_at_call 35; (with_reducible refine (HN.out _).mono ?_); rintro e w7 ⟨rfl, rfl⟩))
    exact door_out HM.out (HW.out.step hb4) rfl
set_option maxRecDepth 100000 in
set_option maxHeartbeats 8000000 in
theorem st11 {d : Dt} {w W : World} {a : Act} {K : Act → World → Prop} {v7 v8 v9 v10 : Value} (hD : DataAt w w.heap.size d) (hE : dataE d = dE5 d)
    (hL : Live d w [(7, v7), (8, v8), (9, v9), (10, v10)] a W)
    (hK : ∀ a' W', setsE d.ss = 0 → Live d w [(7, v7), (8, v8), (9, v9), (10, v10)] a' W' → Below W.heap.size W W' → K a' W') :
    (stmD 11).wp Tryz.prog (Exit.then K (QD d w)) a W := by
  obtain ⟨f, ds, rfl, hws⟩ := openS4 hL
  clear hL
  obtain ⟨c0, c1, c2⟩ := hws.cells
  have HW := Lib.hid hws
  have HK := Lib.hid hK
  have HE := Lib.hid hE
  have hsz := hws.size
  have HD := Lib.hid ((hD.next hws.below).1)
  have hn : d.sn ≤ 9223372036854775807 := HD.out.2.1
  have HLE := Lib.hid HD.out.1
  clear hws hK hE hD
  conv => arg 2; whnf
  go_wp2
  go_loopw [125] (fun b wr => ∃ i : Nat, i ≤ d.sn ∧ b = .int .i64 i ∧ Hid (setsE (d.ss.drop i) = setsE d.ss) ∧ Below W.heap.size W wr) (fun b _ => d.sn - (intOf b).toNat)
  case atStart => exact ⟨0, Nat.zero_le _, rfl, Lib.hid (by rw [List.drop_zero]), Below.refl _ _⟩
  case round =>
    obtain ⟨i, hi, rfl, hfi, hb⟩ := hrel
    by_cases hit : i < d.sn
    · obtain ⟨b, o, q, hA, hbB, hq, hq1, hq2⟩ := sets_get HD.out hit
      have HQ := Lib.hid (setsE_drop hq)
      obtain ⟨⟨e0, e1⟩, _⟩ := hq2 _ hb
      have HA := Lib.hid hA
      have hb0 := hb.alloc hb.size (.cells #[.string q.name, .slice q.A q.n q.cap] 48)
      have HP := Lib.hid (hq2 W (Below.refl _ _)).2
      have hqn : q.n ≤ 9223372036854775807 := HP.out.2.1
      have HPL := Lib.hid HP.out.1
      obtain ⟨wo, hwo⟩ : ∃ wo : World, wo = wr := ⟨_, rfl⟩
      rw [← hwo] at hb0 e0 e1
      rw [← hwo]
      clear hq hq2 hA hb hwo
      rw [HA.out]
      go_wp2
      go_loopw [132] (fun b wr => ∃ j : Nat, j ≤ q.n ∧ b = .int .i64 j ∧ Hid (firstE (q.rs.drop j) = firstE q.rs) ∧ Below W.heap.size W wr) (fun b _ => q.n - (intOf b).toNat)
      case atStart => exact ⟨0, Nat.zero_le _, rfl, Lib.hid (by rw [List.drop_zero]), hb0⟩
      case round =>
        obtain ⟨j, hj, rfl, hfj, hbj⟩ := hrel
        by_cases hjt : j < q.n
        · obtain ⟨c, g, r, hA2, hcB, hr, hle, hr2⟩ := HP.out.get hjt
          obtain ⟨r0, r1, r2, r3, r4, r5, r6, r7, r8⟩ := hr2 _ hbj
          have HA2 := Lib.hid hA2
          have FD := Lib.hid (firstE_drop hr)
          have RC : Hid (∀ w, Calls Tryz.prog 46 #[.agg #[.int .i64 r.fy, .int .i64 r.ty, .int .i64 r.mo, .int .i64 r.k, .int .i64 r.wk, .int .i64 r.d, .int .i64 r.a, .int .i64 r.sv, .string r.le]] w fun e w' => e = .returned (.int .i64 r.e) ∧ Below w.heap.size w w') := Lib.hid (fun w => rcheck_any r.fy r.ty r.mo r.k r.wk r.d r.a r.sv r.le w hle)
          have hbx := hbj.alloc (hbj.size) (.cells #[.int .i64 r.fy, .int .i64 r.ty, .int .i64 r.mo, .int .i64 r.k, .int .i64 r.wk, .int .i64 r.d, .int .i64 r.a, .int .i64 r.sv, .string r.le] 53)
          have HY := yes_out r.e
          have HN := no_out r.e
          clear hr hr2 hA2 hle
          rw [HA2.out]
          by_cases he : r.e = 0
          · have heb : (r.e == 0) = true := by simpa using he
            have HX := Lib.hid ((FD.out.2 he).symm.trans hfj.out)
            clear he hfj
            go_wp2_with (first
              | (go_at_call 46; (with_reducible refine (RC.out _).mono ?_); rintro e w4 ⟨rfl, hb4⟩; have hb5 := hbx.trans (hb4.mono hbx.size); clear hb4)
              | (go_at_call 35; (with_reducible refine (HY.out _).mono ?_); rintro e w7 ⟨rfl, rfl⟩))
            go_roundw
            case rel => exact ⟨j + 1, by omega, by go_num, HX, hb5⟩
            case measure => simp [intOf]; omega
          · have heb : (r.e == 0) = false := by simpa using he
            have HM : Hid (dataE d = r.e) := Lib.hid (by
              have h1 : firstE q.rs = r.e := by rw [← hfj.out]; exact FD.out.1 he
              have h2 : setsE d.ss = r.e := by rw [← hfi.out, HQ.out.1 (by rw [h1]; exact he)]; exact h1
              rw [HE.out]; unfold dE5; rw [if_pos (by rw [h2]; exact he)]; exact h2)
            clear he hfj hfi
            go_wp2_with (first
              | (go_at_call 46; (with_reducible refine (RC.out _).mono ?_); rintro e w4 ⟨rfl, hb4⟩; have hb5 := hbx.trans (hb4.mono hbx.size); clear hb4)
              | (go_at_call 35; (with_reducible refine (HN.out _).mono ?_); rintro e w7 ⟨rfl, rfl⟩))
            exact door_out HM.out (HW.out.step hb5) rfl
        · have HX : Hid (setsE (d.ss.drop (i + 1)) = setsE d.ss) := Lib.hid (by
            have h1 : firstE q.rs = 0 := by rw [← hfj.out, List.drop_of_length_le (by rw [HPL.out]; omega)]; rfl
            exact (HQ.out.2 h1).symm.trans hfi.out)
          clear hfj hfi
          go_wp2
          go_roundw
          case rel => exact ⟨i + 1, by omega, by go_num, HX, hbj⟩
          case measure => simp [intOf]; omega
    · have HM : Hid (setsE d.ss = 0) := Lib.hid (by rw [← hfi.out, List.drop_of_length_le (by rw [HLE.out]; omega)]; rfl)
      clear hfi
      go_wp2
      exact HK.out _ _ HM.out ⟨rfl, ⟨rfl, rfl, rfl, rfl, rfl, rfl, trivial⟩, HW.out.step hb⟩ hb
end Go.Proofs.YthhjgndaiimgjaaGreatDoor
end
/-! The statements of gnomonref.CheckData: their frame, their world. -/
section
set_option linter.unusedVariables false
set_option linter.unusedSimpArgs false
namespace Gno
open Go
def linkTexts (l : Lk) : List ByteArray := [l.name, l.to]
/-- all names, as the reference has them. -/
def allR (d : Dt) : List ByteArray := sNames d ++ zNames d ++ d.ls.flatMap linkTexts
theorem mem_allR (d : Dt) (s : ByteArray) : s ∈ allR d ↔ s ∈ allNames d := by
  unfold allR allNames sNames zNames lNames lTos linkTexts
  simp only [List.mem_append, List.mem_flatMap, List.mem_map, List.mem_cons, List.not_mem_nil, or_false]
  constructor
  · rintro ((h | h) | ⟨l, hl, h | h⟩)
    · exact .inl h
    · exact .inr (.inl h)
    · exact .inr (.inr (.inl ⟨l, hl, h.symm⟩))
    · exact .inr (.inr (.inr ⟨l, hl, h.symm⟩))
  · rintro (h | h | ⟨l, hl, h⟩ | ⟨l, hl, h⟩)
    · exact .inl (.inl h)
    · exact .inl (.inr h)
    · exact .inr ⟨l, hl, .inl h.symm⟩
    · exact .inr ⟨l, hl, .inr h.symm⟩
theorem any_allR (d : Dt) : anyI (fun _ => badNm) (allR d) = anyI (fun _ => badNm) (allNames d) := by
  rw [anyI_any, anyI_any, Bool.eq_iff_iff, List.any_eq_true, List.any_eq_true]
  exact ⟨fun ⟨x, hx, hp⟩ => ⟨x, (mem_allR d x).1 hx, hp⟩, fun ⟨x, hx, hp⟩ => ⟨x, (mem_allR d x).2 hx, hp⟩⟩
theorem zoneN_has (d : Dt) (s : ByteArray) : hasS (zNames d) s = decide (0 ≤ zoneN d s) := by
  unfold hasS zoneN
  rw [Bool.eq_iff_iff, hasP, decide_eq_true_iff, decide_eq_true_iff, fst_nn _ _ _ (by omega), fst_nn _ _ _ (by omega)]
  unfold zNames isZone
  constructor
  · rintro ⟨b, hb, hp⟩
    obtain ⟨z, hz, rfl⟩ := List.mem_map.1 hb
    exact ⟨z, hz, by rw [same_comm]; exact hp⟩
  · rintro ⟨z, hz, hp⟩
    exact ⟨z.name, List.mem_map.2 ⟨z, hz, rfl⟩, by rw [same_comm]; exact hp⟩
theorem linkN_has (d : Dt) (s : ByteArray) : hasS (lNames d) s = decide (0 ≤ linkN d s) := by
  unfold hasS linkN
  rw [Bool.eq_iff_iff, hasP, decide_eq_true_iff, decide_eq_true_iff, fst_nn _ _ _ (by omega), fst_nn _ _ _ (by omega)]
  unfold lNames isLink
  constructor
  · rintro ⟨b, hb, hp⟩
    obtain ⟨z, hz, rfl⟩ := List.mem_map.1 hb
    exact ⟨z, hz, by rw [same_comm]; exact hp⟩
  · rintro ⟨z, hz, hp⟩
    exact ⟨z.name, List.mem_map.2 ⟨z, hz, rfl⟩, by rw [same_comm]; exact hp⟩
end Gno
namespace Go.Proofs.YthhjgndaiimgjaaGreatDoor
open Go.RowKit Gno
/-- the world of CheckData's call, between two statements: the data's box. -/
structure WR (d : Dt) (w : World) (W : World) : Prop where
  below : Below w.heap.size w W
  d0 : W.heap[w.heap.size]? = some (Dobj d)
  size : w.heap.size + 1 ≤ W.heap.size
theorem WR.step {d : Dt} {w W W' : World} (h : WR d w W) (hb : Below W.heap.size W W') : WR d w W' :=
  ⟨h.below.trans (hb.mono h.below.size), (hb.block _ (by have := h.size; omega)).trans h.d0, by have := h.size; have := hb.size; omega⟩
theorem WR.cells {d : Dt} {w W : World} (h : WR d w W) :
    W.cell? ⟨w.heap.size, 0, none⟩ = some (.slice d.sA d.sn d.sc) ∧ W.cell? ⟨w.heap.size, 1, none⟩ = some (.slice d.zA d.zn d.zc) ∧ W.cell? ⟨w.heap.size, 2, none⟩ = some (.slice d.lA d.ln d.lc) := by
  have := h.d0
  exact ⟨by simp [World.cell?, this], by simp [World.cell?, this], by simp [World.cell?, this]⟩
structure LiveR (d : Dt) (w : World) (rs : List (Nat × Value)) (a : Act) (W : World) : Prop where
  size : a.tmps.size = 281
  regs : Regs ((1, .pointer (some ⟨w.heap.size, 0, none⟩)) :: rs) a.tmps
  defers : a.defers = []
  ws : WR d w W
/-- the n-th statement of CheckData's body. -/
noncomputable def stmR (n : Nat) : Code := nthS n (Tryz.f6.body.getD .skip)
abbrev QR (d : Dt) (w : World) : Exit → Act → World → Prop := bodyPost Tryz.prog Tryz.f6 (fun e w' => e = .returned (.int .i64 (dataE d)) ∧ Below w.heap.size w w')

set_option maxRecDepth 100000 in
theorem frameR0 (f : Nat → Value) (v1 : Value) : arrF (upd ((1, v1) :: []) f) 281 = #[f 0, v1, f 2, f 3, f 4, f 5, f 6, f 7, f 8, f 9, f 10, f 11, f 12, f 13, f 14, f 15, f 16, f 17, f 18, f 19, f 20, f 21, f 22, f 23, f 24, f 25, f 26, f 27, f 28, f 29, f 30, f 31, f 32, f 33, f 34, f 35, f 36, f 37, f 38, f 39, f 40, f 41, f 42, f 43, f 44, f 45, f 46, f 47, f 48, f 49, f 50, f 51, f 52, f 53, f 54, f 55, f 56, f 57, f 58, f 59, f 60, f 61, f 62, f 63, f 64, f 65, f 66, f 67, f 68, f 69, f 70, f 71, f 72, f 73, f 74, f 75, f 76, f 77, f 78, f 79, f 80, f 81, f 82, f 83, f 84, f 85, f 86, f 87, f 88, f 89, f 90, f 91, f 92, f 93, f 94, f 95, f 96, f 97, f 98, f 99, f 100, f 101, f 102, f 103, f 104, f 105, f 106, f 107, f 108, f 109, f 110, f 111, f 112, f 113, f 114, f 115, f 116, f 117, f 118, f 119, f 120, f 121, f 122, f 123, f 124, f 125, f 126, f 127, f 128, f 129, f 130, f 131, f 132, f 133, f 134, f 135, f 136, f 137, f 138, f 139, f 140, f 141, f 142, f 143, f 144, f 145, f 146, f 147, f 148, f 149, f 150, f 151, f 152, f 153, f 154, f 155, f 156, f 157, f 158, f 159, f 160, f 161, f 162, f 163, f 164, f 165, f 166, f 167, f 168, f 169, f 170, f 171, f 172, f 173, f 174, f 175, f 176, f 177, f 178, f 179, f 180, f 181, f 182, f 183, f 184, f 185, f 186, f 187, f 188, f 189, f 190, f 191, f 192, f 193, f 194, f 195, f 196, f 197, f 198, f 199, f 200, f 201, f 202, f 203, f 204, f 205, f 206, f 207, f 208, f 209, f 210, f 211, f 212, f 213, f 214, f 215, f 216, f 217, f 218, f 219, f 220, f 221, f 222, f 223, f 224, f 225, f 226, f 227, f 228, f 229, f 230, f 231, f 232, f 233, f 234, f 235, f 236, f 237, f 238, f 239, f 240, f 241, f 242, f 243, f 244, f 245, f 246, f 247, f 248, f 249, f 250, f 251, f 252, f 253, f 254, f 255, f 256, f 257, f 258, f 259, f 260, f 261, f 262, f 263, f 264, f 265, f 266, f 267, f 268, f 269, f 270, f 271, f 272, f 273, f 274, f 275, f 276, f 277, f 278, f 279, f 280] := by rfl
theorem openR0 {d : Dt} {w W : World} {a : Act} (h : LiveR d w [] a W) : ∃ (f : Nat → Value), a = { tmps := #[f 0, .pointer (some ⟨w.heap.size, 0, none⟩), f 2, f 3, f 4, f 5, f 6, f 7, f 8, f 9, f 10, f 11, f 12, f 13, f 14, f 15, f 16, f 17, f 18, f 19, f 20, f 21, f 22, f 23, f 24, f 25, f 26, f 27, f 28, f 29, f 30, f 31, f 32, f 33, f 34, f 35, f 36, f 37, f 38, f 39, f 40, f 41, f 42, f 43, f 44, f 45, f 46, f 47, f 48, f 49, f 50, f 51, f 52, f 53, f 54, f 55, f 56, f 57, f 58, f 59, f 60, f 61, f 62, f 63, f 64, f 65, f 66, f 67, f 68, f 69, f 70, f 71, f 72, f 73, f 74, f 75, f 76, f 77, f 78, f 79, f 80, f 81, f 82, f 83, f 84, f 85, f 86, f 87, f 88, f 89, f 90, f 91, f 92, f 93, f 94, f 95, f 96, f 97, f 98, f 99, f 100, f 101, f 102, f 103, f 104, f 105, f 106, f 107, f 108, f 109, f 110, f 111, f 112, f 113, f 114, f 115, f 116, f 117, f 118, f 119, f 120, f 121, f 122, f 123, f 124, f 125, f 126, f 127, f 128, f 129, f 130, f 131, f 132, f 133, f 134, f 135, f 136, f 137, f 138, f 139, f 140, f 141, f 142, f 143, f 144, f 145, f 146, f 147, f 148, f 149, f 150, f 151, f 152, f 153, f 154, f 155, f 156, f 157, f 158, f 159, f 160, f 161, f 162, f 163, f 164, f 165, f 166, f 167, f 168, f 169, f 170, f 171, f 172, f 173, f 174, f 175, f 176, f 177, f 178, f 179, f 180, f 181, f 182, f 183, f 184, f 185, f 186, f 187, f 188, f 189, f 190, f 191, f 192, f 193, f 194, f 195, f 196, f 197, f 198, f 199, f 200, f 201, f 202, f 203, f 204, f 205, f 206, f 207, f 208, f 209, f 210, f 211, f 212, f 213, f 214, f 215, f 216, f 217, f 218, f 219, f 220, f 221, f 222, f 223, f 224, f 225, f 226, f 227, f 228, f 229, f 230, f 231, f 232, f 233, f 234, f 235, f 236, f 237, f 238, f 239, f 240, f 241, f 242, f 243, f 244, f 245, f 246, f 247, f 248, f 249, f 250, f 251, f 252, f 253, f 254, f 255, f 256, f 257, f 258, f 259, f 260, f 261, f 262, f 263, f 264, f 265, f 266, f 267, f 268, f 269, f 270, f 271, f 272, f 273, f 274, f 275, f 276, f 277, f 278, f 279, f 280], defers := [] } ∧ WR d w W := by
  obtain ⟨tmps, ds⟩ := a
  obtain ⟨f, hf⟩ := arr_open h.size h.regs
  rw [frameR0] at hf
  have hd := h.defers
  dsimp only at hf hd
  subst hf hd
  exact ⟨f, rfl, h.ws⟩
set_option maxRecDepth 100000 in
theorem frameR2 (f : Nat → Value) (v1 v3 v4 : Value) : arrF (upd ((1, v1) :: (3, v3) :: (4, v4) :: []) f) 281 = #[f 0, v1, f 2, v3, v4, f 5, f 6, f 7, f 8, f 9, f 10, f 11, f 12, f 13, f 14, f 15, f 16, f 17, f 18, f 19, f 20, f 21, f 22, f 23, f 24, f 25, f 26, f 27, f 28, f 29, f 30, f 31, f 32, f 33, f 34, f 35, f 36, f 37, f 38, f 39, f 40, f 41, f 42, f 43, f 44, f 45, f 46, f 47, f 48, f 49, f 50, f 51, f 52, f 53, f 54, f 55, f 56, f 57, f 58, f 59, f 60, f 61, f 62, f 63, f 64, f 65, f 66, f 67, f 68, f 69, f 70, f 71, f 72, f 73, f 74, f 75, f 76, f 77, f 78, f 79, f 80, f 81, f 82, f 83, f 84, f 85, f 86, f 87, f 88, f 89, f 90, f 91, f 92, f 93, f 94, f 95, f 96, f 97, f 98, f 99, f 100, f 101, f 102, f 103, f 104, f 105, f 106, f 107, f 108, f 109, f 110, f 111, f 112, f 113, f 114, f 115, f 116, f 117, f 118, f 119, f 120, f 121, f 122, f 123, f 124, f 125, f 126, f 127, f 128, f 129, f 130, f 131, f 132, f 133, f 134, f 135, f 136, f 137, f 138, f 139, f 140, f 141, f 142, f 143, f 144, f 145, f 146, f 147, f 148, f 149, f 150, f 151, f 152, f 153, f 154, f 155, f 156, f 157, f 158, f 159, f 160, f 161, f 162, f 163, f 164, f 165, f 166, f 167, f 168, f 169, f 170, f 171, f 172, f 173, f 174, f 175, f 176, f 177, f 178, f 179, f 180, f 181, f 182, f 183, f 184, f 185, f 186, f 187, f 188, f 189, f 190, f 191, f 192, f 193, f 194, f 195, f 196, f 197, f 198, f 199, f 200, f 201, f 202, f 203, f 204, f 205, f 206, f 207, f 208, f 209, f 210, f 211, f 212, f 213, f 214, f 215, f 216, f 217, f 218, f 219, f 220, f 221, f 222, f 223, f 224, f 225, f 226, f 227, f 228, f 229, f 230, f 231, f 232, f 233, f 234, f 235, f 236, f 237, f 238, f 239, f 240, f 241, f 242, f 243, f 244, f 245, f 246, f 247, f 248, f 249, f 250, f 251, f 252, f 253, f 254, f 255, f 256, f 257, f 258, f 259, f 260, f 261, f 262, f 263, f 264, f 265, f 266, f 267, f 268, f 269, f 270, f 271, f 272, f 273, f 274, f 275, f 276, f 277, f 278, f 279, f 280] := by rfl
theorem openR2 {d : Dt} {w W : World} {a : Act} {v3 v4 : Value} (h : LiveR d w [(3, v3), (4, v4)] a W) : ∃ (f : Nat → Value), a = { tmps := #[f 0, .pointer (some ⟨w.heap.size, 0, none⟩), f 2, v3, v4, f 5, f 6, f 7, f 8, f 9, f 10, f 11, f 12, f 13, f 14, f 15, f 16, f 17, f 18, f 19, f 20, f 21, f 22, f 23, f 24, f 25, f 26, f 27, f 28, f 29, f 30, f 31, f 32, f 33, f 34, f 35, f 36, f 37, f 38, f 39, f 40, f 41, f 42, f 43, f 44, f 45, f 46, f 47, f 48, f 49, f 50, f 51, f 52, f 53, f 54, f 55, f 56, f 57, f 58, f 59, f 60, f 61, f 62, f 63, f 64, f 65, f 66, f 67, f 68, f 69, f 70, f 71, f 72, f 73, f 74, f 75, f 76, f 77, f 78, f 79, f 80, f 81, f 82, f 83, f 84, f 85, f 86, f 87, f 88, f 89, f 90, f 91, f 92, f 93, f 94, f 95, f 96, f 97, f 98, f 99, f 100, f 101, f 102, f 103, f 104, f 105, f 106, f 107, f 108, f 109, f 110, f 111, f 112, f 113, f 114, f 115, f 116, f 117, f 118, f 119, f 120, f 121, f 122, f 123, f 124, f 125, f 126, f 127, f 128, f 129, f 130, f 131, f 132, f 133, f 134, f 135, f 136, f 137, f 138, f 139, f 140, f 141, f 142, f 143, f 144, f 145, f 146, f 147, f 148, f 149, f 150, f 151, f 152, f 153, f 154, f 155, f 156, f 157, f 158, f 159, f 160, f 161, f 162, f 163, f 164, f 165, f 166, f 167, f 168, f 169, f 170, f 171, f 172, f 173, f 174, f 175, f 176, f 177, f 178, f 179, f 180, f 181, f 182, f 183, f 184, f 185, f 186, f 187, f 188, f 189, f 190, f 191, f 192, f 193, f 194, f 195, f 196, f 197, f 198, f 199, f 200, f 201, f 202, f 203, f 204, f 205, f 206, f 207, f 208, f 209, f 210, f 211, f 212, f 213, f 214, f 215, f 216, f 217, f 218, f 219, f 220, f 221, f 222, f 223, f 224, f 225, f 226, f 227, f 228, f 229, f 230, f 231, f 232, f 233, f 234, f 235, f 236, f 237, f 238, f 239, f 240, f 241, f 242, f 243, f 244, f 245, f 246, f 247, f 248, f 249, f 250, f 251, f 252, f 253, f 254, f 255, f 256, f 257, f 258, f 259, f 260, f 261, f 262, f 263, f 264, f 265, f 266, f 267, f 268, f 269, f 270, f 271, f 272, f 273, f 274, f 275, f 276, f 277, f 278, f 279, f 280], defers := [] } ∧ WR d w W := by
  obtain ⟨tmps, ds⟩ := a
  obtain ⟨f, hf⟩ := arr_open h.size h.regs
  rw [frameR2] at hf
  have hd := h.defers
  dsimp only at hf hd
  subst hf hd
  exact ⟨f, rfl, h.ws⟩
set_option maxRecDepth 100000 in
theorem frameR3 (f : Nat → Value) (v1 v3 v4 v7 : Value) : arrF (upd ((1, v1) :: (3, v3) :: (4, v4) :: (7, v7) :: []) f) 281 = #[f 0, v1, f 2, v3, v4, f 5, f 6, v7, f 8, f 9, f 10, f 11, f 12, f 13, f 14, f 15, f 16, f 17, f 18, f 19, f 20, f 21, f 22, f 23, f 24, f 25, f 26, f 27, f 28, f 29, f 30, f 31, f 32, f 33, f 34, f 35, f 36, f 37, f 38, f 39, f 40, f 41, f 42, f 43, f 44, f 45, f 46, f 47, f 48, f 49, f 50, f 51, f 52, f 53, f 54, f 55, f 56, f 57, f 58, f 59, f 60, f 61, f 62, f 63, f 64, f 65, f 66, f 67, f 68, f 69, f 70, f 71, f 72, f 73, f 74, f 75, f 76, f 77, f 78, f 79, f 80, f 81, f 82, f 83, f 84, f 85, f 86, f 87, f 88, f 89, f 90, f 91, f 92, f 93, f 94, f 95, f 96, f 97, f 98, f 99, f 100, f 101, f 102, f 103, f 104, f 105, f 106, f 107, f 108, f 109, f 110, f 111, f 112, f 113, f 114, f 115, f 116, f 117, f 118, f 119, f 120, f 121, f 122, f 123, f 124, f 125, f 126, f 127, f 128, f 129, f 130, f 131, f 132, f 133, f 134, f 135, f 136, f 137, f 138, f 139, f 140, f 141, f 142, f 143, f 144, f 145, f 146, f 147, f 148, f 149, f 150, f 151, f 152, f 153, f 154, f 155, f 156, f 157, f 158, f 159, f 160, f 161, f 162, f 163, f 164, f 165, f 166, f 167, f 168, f 169, f 170, f 171, f 172, f 173, f 174, f 175, f 176, f 177, f 178, f 179, f 180, f 181, f 182, f 183, f 184, f 185, f 186, f 187, f 188, f 189, f 190, f 191, f 192, f 193, f 194, f 195, f 196, f 197, f 198, f 199, f 200, f 201, f 202, f 203, f 204, f 205, f 206, f 207, f 208, f 209, f 210, f 211, f 212, f 213, f 214, f 215, f 216, f 217, f 218, f 219, f 220, f 221, f 222, f 223, f 224, f 225, f 226, f 227, f 228, f 229, f 230, f 231, f 232, f 233, f 234, f 235, f 236, f 237, f 238, f 239, f 240, f 241, f 242, f 243, f 244, f 245, f 246, f 247, f 248, f 249, f 250, f 251, f 252, f 253, f 254, f 255, f 256, f 257, f 258, f 259, f 260, f 261, f 262, f 263, f 264, f 265, f 266, f 267, f 268, f 269, f 270, f 271, f 272, f 273, f 274, f 275, f 276, f 277, f 278, f 279, f 280] := by rfl
theorem openR3 {d : Dt} {w W : World} {a : Act} {v3 v4 v7 : Value} (h : LiveR d w [(3, v3), (4, v4), (7, v7)] a W) : ∃ (f : Nat → Value), a = { tmps := #[f 0, .pointer (some ⟨w.heap.size, 0, none⟩), f 2, v3, v4, f 5, f 6, v7, f 8, f 9, f 10, f 11, f 12, f 13, f 14, f 15, f 16, f 17, f 18, f 19, f 20, f 21, f 22, f 23, f 24, f 25, f 26, f 27, f 28, f 29, f 30, f 31, f 32, f 33, f 34, f 35, f 36, f 37, f 38, f 39, f 40, f 41, f 42, f 43, f 44, f 45, f 46, f 47, f 48, f 49, f 50, f 51, f 52, f 53, f 54, f 55, f 56, f 57, f 58, f 59, f 60, f 61, f 62, f 63, f 64, f 65, f 66, f 67, f 68, f 69, f 70, f 71, f 72, f 73, f 74, f 75, f 76, f 77, f 78, f 79, f 80, f 81, f 82, f 83, f 84, f 85, f 86, f 87, f 88, f 89, f 90, f 91, f 92, f 93, f 94, f 95, f 96, f 97, f 98, f 99, f 100, f 101, f 102, f 103, f 104, f 105, f 106, f 107, f 108, f 109, f 110, f 111, f 112, f 113, f 114, f 115, f 116, f 117, f 118, f 119, f 120, f 121, f 122, f 123, f 124, f 125, f 126, f 127, f 128, f 129, f 130, f 131, f 132, f 133, f 134, f 135, f 136, f 137, f 138, f 139, f 140, f 141, f 142, f 143, f 144, f 145, f 146, f 147, f 148, f 149, f 150, f 151, f 152, f 153, f 154, f 155, f 156, f 157, f 158, f 159, f 160, f 161, f 162, f 163, f 164, f 165, f 166, f 167, f 168, f 169, f 170, f 171, f 172, f 173, f 174, f 175, f 176, f 177, f 178, f 179, f 180, f 181, f 182, f 183, f 184, f 185, f 186, f 187, f 188, f 189, f 190, f 191, f 192, f 193, f 194, f 195, f 196, f 197, f 198, f 199, f 200, f 201, f 202, f 203, f 204, f 205, f 206, f 207, f 208, f 209, f 210, f 211, f 212, f 213, f 214, f 215, f 216, f 217, f 218, f 219, f 220, f 221, f 222, f 223, f 224, f 225, f 226, f 227, f 228, f 229, f 230, f 231, f 232, f 233, f 234, f 235, f 236, f 237, f 238, f 239, f 240, f 241, f 242, f 243, f 244, f 245, f 246, f 247, f 248, f 249, f 250, f 251, f 252, f 253, f 254, f 255, f 256, f 257, f 258, f 259, f 260, f 261, f 262, f 263, f 264, f 265, f 266, f 267, f 268, f 269, f 270, f 271, f 272, f 273, f 274, f 275, f 276, f 277, f 278, f 279, f 280], defers := [] } ∧ WR d w W := by
  obtain ⟨tmps, ds⟩ := a
  obtain ⟨f, hf⟩ := arr_open h.size h.regs
  rw [frameR3] at hf
  have hd := h.defers
  dsimp only at hf hd
  subst hf hd
  exact ⟨f, rfl, h.ws⟩
end Go.Proofs.YthhjgndaiimgjaaGreatDoor
end
/-! data.Check: each era (the first loop over data.eras). -/
section
set_option linter.unusedVariables false
set_option linter.unusedSimpArgs false
namespace Gno
open Go
theorem any_mid {α : Type} {p : α → Bool} {l pre rest : List α} {x : α} (h : l = pre ++ x :: rest) (hx : p x = true) : l.any p = true := by subst h; simp [hx]
theorem any_more {α : Type} {p : α → Bool} {pre : List α} {x : α} (h : pre.any p = false) (hx : p x = false) : (pre ++ [x]).any p = false := by rw [List.any_append, h]; simp [hx]
end Gno
namespace Go.Proofs.YthhjgndaiimgjaaGreatDoor
open Go.RowKit Gno Go.Shelf
attribute [local go_sem] Oper.semAt_some
/-- a mark more. -/
theorem WS.mark {d : Dt} {w W W' : World} {ds : List Deferred} {r : Nat} (h : WS d w ds W) (hb : Below W.heap.size W W') (hr : W.heap.size ≤ r) (hd : W'.heap[r]? = some (.deferred (some []))) :
    WS d w ({ target := .collected r, args := #[] } :: ds) W' := by
  have h1 := h.step hb
  refine ⟨h1.below, h1.d0, h1.e0, h1.size, ?_⟩
  obtain ⟨rs, e1, e2, e3⟩ := h.marks
  have hs := h.size
  refine ⟨r :: rs, by rw [e1]; rfl, List.nodup_cons.2 ⟨fun hm => ?_, e2⟩, fun q hq => ?_⟩
  · have := (Array.getElem?_eq_some_iff.1 (e3 r hm).2).1
    omega
  · rcases List.mem_cons.1 hq with rfl | hq
    · exact ⟨by omega, hd⟩
    · exact ⟨(e3 q hq).1, (hb.block _ (Array.getElem?_eq_some_iff.1 (e3 q hq).2).1).trans (e3 q hq).2⟩
set_option maxRecDepth 100000 in
set_option maxHeartbeats 8000000 in
theorem st12 {d : Dt} {w W : World} {a : Act} {K : Act → World → Prop} {v7 v8 v9 v10 : Value} (hD : DataAt w w.heap.size d) (hM : manyD d = false) (hE : dataE d = dE6 d)
    (hL : Live d w [(7, v7), (8, v8), (9, v9), (10, v10)] a W)
    (hK : ∀ a' W', (erasL d.zs).any (badE d) = false → Live d w [(7, v7), (8, v8), (9, v9), (10, v10)] a' W' → Below W.heap.size W W' → K a' W') :
    Code.wpV Tryz.prog (stmD 12) (Exit.then K (QD d w)) a W := by
  obtain ⟨f, ds, rfl, hws⟩ := openS4 hL
  clear hL
  obtain ⟨c0, c1, c2⟩ := hws.cells
  have HW := Lib.hid hws
  have HK := Lib.hid hK
  have HE := Lib.hid hE
  have hsz := hws.size
  have HY := yes_out 3
  have HN := no_out 3
  have hle := (manyD_le hM).1
  have HSN : Hid (d.sn ≤ maxLen) := Lib.hid (by unfold maxLen; omega)
  have HD := Lib.hid ((hD.next hws.below).2.1)
  have CE : Hid (∀ w, Calls Tryz.prog 47 #[.agg #[.slice d.sA d.sn d.sc, .slice d.zA d.zn d.zc, .slice d.lA d.ln d.lc]] w fun e w' => e = .returned (.func (.func 79) #[] #[.pointer (some ⟨w.heap.size, 0, none⟩)]) ∧
      w' = w.alloc (.cells #[.slice d.sA d.sn d.sc, .slice d.zA d.zn d.zc, .slice d.lA d.ln d.lc] 26)) := Lib.hid (fun w => eras_any d w)
  clear hws hK hE hD hM hle
  conv => arg 2; whnf
  refine wpV_plain fun K1 hK1 => ?_
  have HK1 := Lib.hid hK1
  clear hK1
  go_wp2_with (go_at_call 47; (with_reducible refine (CE.out _).mono ?_); rintro e w4 ⟨rfl, rfl⟩)
  refine HK1.out _ _ ?_
  clear HK1 CE
  have hb1 : Below W.heap.size W (W.alloc (.cells #[.slice d.sA d.sn d.sc, .slice d.zA d.zn d.zc, .slice d.lA d.ln d.lc] 26)) := (Below.refl _ _).alloc (Nat.le_refl _) _
  obtain ⟨W1, hW1⟩ : ∃ W1, W1 = W.alloc (.cells #[.slice d.sA d.sn d.sc, .slice d.zA d.zn d.zc, .slice d.lA d.ln d.lc] 26) := ⟨_, rfl⟩
  have hz1 : W1.heap.size = W.heap.size + 1 := by rw [hW1]; simp
  have hc1 : W1.cell? ⟨W.heap.size, 1, none⟩ = some (.slice d.zA d.zn d.zc) := by rw [hW1]; simp
  rw [← hW1] at hb1 ⊢
  clear hW1
  refine wpV_block ?_
  refine wpV_range (gf := 79) (lb := #[.pointer (some ⟨W.heap.size, 0, none⟩)]) (encs := encEr) (xs := erasL d.zs) (n0 := W.heap.size) rfl (enters_of Tryz.func79 (by kernel_rfl) rfl) (fun x => rfl)
    (eras_seq d W.heap.size W.heap.size W1 (SlAt.below keeps_zn HD.out hb1 (Nat.le_refl _)) hb1.size (by omega) hc1) hb1.size
    (fun pre V => Hid (pre.any (badE d) = false) ∧ Below W.heap.size W V) (fun ch V => Hid (ch = thrown 3 ∧ dataE d = 3) ∧ Below W.heap.size W V)
    (fun pre A B h hb => ⟨h.1, h.2.trans (hb.mono hb1.size)⟩) ⟨Lib.hid rfl, hb1⟩ ?round ?done ?panic
  case done =>
    rintro W' ⟨hp, hb⟩ hk hz
    simp only [Exit.inBlock, Exit.then]
    exact HK.out _ _ hp.out ⟨rfl, ⟨rfl, rfl, rfl, rfl, rfl, rfl, trivial⟩, HW.out.mark hb (by omega) hk⟩ hb
  case panic =>
    rintro ch W' ⟨hp, hb⟩ hk
    obtain ⟨rfl, hF⟩ := hp.out
    simp only [Exit.inBlock, Exit.then]
    exact door_out hF (HW.out.mark hb (by omega) hk) rfl
  case round =>
    rintro pre ⟨x, ahead⟩ rest V hx ⟨hp, hb⟩ hz
    have HX := Lib.hid hx
    have hzV : W.heap.size + 3 ≤ V.heap.size := by omega
    clear hx
    dsimp only [encEr, Er.val]
    gi_wp2
    refine ⟨(Below.refl _ _).alloc (Nat.le_refl _) _, ?_⟩
    intro V2 hb2 hk2 hs2
    have hbV : Below W.heap.size W V2 := (hb.alloc hb.size _).trans (hb2.mono (by omega))
    have hcell : ∀ i, V2.cell? ⟨V.heap.size, i, none⟩ = (V.alloc (.cells #[.int .i64 x.std, .int .i64 x.set, .int .i64 x.save, .string x.fmt, .int .i64 x.til] 59)).cell? ⟨V.heap.size, i, none⟩ := fun i =>
      World.cell?_of_block (w := V.alloc (.cells #[.int .i64 x.std, .int .i64 x.set, .int .i64 x.save, .string x.fmt, .int .i64 x.til] 59)) (a := ⟨V.heap.size, i, none⟩) (hk2 V.heap.size (by omega))
    have g0 : V2.cell? ⟨V.heap.size, 0, none⟩ = some (.int .i64 x.std) := by rw [hcell]; simp
    have g1 : V2.cell? ⟨V.heap.size, 1, none⟩ = some (.int .i64 x.set) := by rw [hcell]; simp
    have g2 : V2.cell? ⟨V.heap.size, 2, none⟩ = some (.int .i64 x.save) := by rw [hcell]; simp
    have g3 : V2.cell? ⟨V.heap.size, 3, none⟩ = some (.string x.fmt) := by rw [hcell]; simp
    have g4 : V2.cell? ⟨V.heap.size, 4, none⟩ = some (.int .i64 x.til) := by rw [hcell]; simp
    obtain ⟨m0, m1, m2⟩ := (HW.out.step hbV).cells
    have hz2 : V2.heap.size = V.heap.size + 1 := by rw [hs2]; simp
    have ER1 : ∀ w, Calls Tryz.prog 48 #[.agg #[.slice d.sA d.sn d.sc, .slice d.zA d.zn d.zc, .slice d.lA d.ln d.lc], .agg #[.int .i64 x.std, .int .i64 x.set, .int .i64 x.save, .string x.fmt, .int .i64 x.til], .int .i64 ahead] w fun e w' => e = .returned (.bool (eraOk d.sn x ahead)) ∧ Below w.heap.size w w' := fun w => era_any d x ahead w HSN.out
    clear hcell hb2 hk2 hs2 hb
    cases hok : eraOk d.sn x ahead
    · rw [hok] at ER1
      have ER := Lib.hid ER1
      have HM : Hid (dataE d = 3) := Lib.hid (by rw [HE.out]; unfold dE6; rw [if_pos (any_mid HX.out (by unfold badE; simp [hok]))])
      clear ER1 hok hp
      gi_wp2_with (first
        | (refine ⟨trivial, ?_⟩; gi_at_call 48; (with_reducible refine (CallsIn.inRound _ (callsIn_wide.2 (ER.out _))).mono ?_); rintro e w5 ⟨rfl, hb5⟩)
        | (refine ⟨trivial, ?_⟩; gi_at_call 35; (with_reducible refine (CallsIn.inRound _ (callsIn_wide.2 (HN.out _))).mono ?_); rintro e w6 ⟨rfl, rfl⟩))
      exact ⟨hb5.block _ (by omega), hbV.trans (hb5.mono hbV.size)⟩
    · rw [hok] at ER1
      have ER := Lib.hid ER1
      have HM := Lib.hid (any_more (x := (x, ahead)) hp.out (by unfold badE; simp [hok]))
      clear ER1 hok hp
      gi_wp2_with (first
        | (refine ⟨trivial, ?_⟩; gi_at_call 48; (with_reducible refine (CallsIn.inRound _ (callsIn_wide.2 (ER.out _))).mono ?_); rintro e w5 ⟨rfl, hb5⟩)
        | (refine ⟨trivial, ?_⟩; gi_at_call 35; (with_reducible refine (CallsIn.inRound _ (callsIn_wide.2 (HY.out _))).mono ?_); rintro e w6 ⟨rfl, rfl⟩))
      exact ⟨fun k h1 h2 => hb5.block k (by omega), by have := hb5.size; omega, hb5.mono (by omega), Lib.hid (by simpa using HM.out), hbV.trans (hb5.mono hbV.size)⟩
end Go.Proofs.YthhjgndaiimgjaaGreatDoor
end
