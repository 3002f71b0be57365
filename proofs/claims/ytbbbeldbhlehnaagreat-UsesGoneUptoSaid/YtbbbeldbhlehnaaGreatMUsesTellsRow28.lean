/- Parts of a proof, laid together. -/
import Derived.Test.YtbbbeldbhlehnaaGreatMUsesTellsRow27
import Derived.Test.YtbbbeldbhlehnaaGreatMUsesTellsRow18
import Derived.Test.YtbbbeldbhlehnaaGreatMUsesTellsRow11
import Derived.Test.YtbbbeldbhlehnaaGreatMUsesTellsRow12
set_option linter.unusedSimpArgs false
set_option linter.unusedVariables false
/-! The statements of gnomonref.CheckData: their frame, their world. -/
section
set_option linter.unusedVariables false
set_option linter.unusedSimpArgs false
namespace Gno
open Go
def linkTexts (l : Lk) : List ByteArray := [l.name, l.to]
/-- all names, as the reference has them. -/
def allR (d : Dt) : List ByteArray := sNames d ++ zNames d ++ d.ls.flatMap linkTexts
theorem mem_allR (d : Dt) (s : ByteArray) : s ∈ allR d ↔ s ∈ allNames d := by
  unfold allR allNames sNames zNames lNames lTos linkTexts
  simp only [List.mem_append, List.mem_flatMap, List.mem_map, List.mem_cons, List.not_mem_nil, or_false]
  constructor
  · rintro ((h | h) | ⟨l, hl, h | h⟩)
    · exact .inl h
    · exact .inr (.inl h)
    · exact .inr (.inr (.inl ⟨l, hl, h.symm⟩))
    · exact .inr (.inr (.inr ⟨l, hl, h.symm⟩))
  · rintro (h | h | ⟨l, hl, h⟩ | ⟨l, hl, h⟩)
    · exact .inl (.inl h)
    · exact .inl (.inr h)
    · exact .inr ⟨l, hl, .inl h.symm⟩
    · exact .inr ⟨l, hl, .inr h.symm⟩
theorem any_allR (d : Dt) : anyI (fun _ => badNm) (allR d) = anyI (fun _ => badNm) (allNames d) := by
  rw [anyI_any, anyI_any, Bool.eq_iff_iff, List.any_eq_true, List.any_eq_true]
  exact ⟨fun ⟨x, hx, hp⟩ => ⟨x, (mem_allR d x).1 hx, hp⟩, fun ⟨x, hx, hp⟩ => ⟨x, (mem_allR d x).2 hx, hp⟩⟩
theorem zoneN_has (d : Dt) (s : ByteArray) : hasS (zNames d) s = decide (0 ≤ zoneN d s) := by
  unfold hasS zoneN
  rw [Bool.eq_iff_iff, hasP, decide_eq_true_iff, decide_eq_true_iff, fst_nn _ _ _ (by omega), fst_nn _ _ _ (by omega)]
  unfold zNames isZone
  constructor
  · rintro ⟨b, hb, hp⟩
    obtain ⟨z, hz, rfl⟩ := List.mem_map.1 hb
    exact ⟨z, hz, by rw [same_comm]; exact hp⟩
  · rintro ⟨z, hz, hp⟩
    exact ⟨z.name, List.mem_map.2 ⟨z, hz, rfl⟩, by rw [same_comm]; exact hp⟩
theorem linkN_has (d : Dt) (s : ByteArray) : hasS (lNames d) s = decide (0 ≤ linkN d s) := by
  unfold hasS linkN
  rw [Bool.eq_iff_iff, hasP, decide_eq_true_iff, decide_eq_true_iff, fst_nn _ _ _ (by omega), fst_nn _ _ _ (by omega)]
  unfold lNames isLink
  constructor
  · rintro ⟨b, hb, hp⟩
    obtain ⟨z, hz, rfl⟩ := List.mem_map.1 hb
    exact ⟨z, hz, by rw [same_comm]; exact hp⟩
  · rintro ⟨z, hz, hp⟩
    exact ⟨z.name, List.mem_map.2 ⟨z, hz, rfl⟩, by rw [same_comm]; exact hp⟩
end Gno
namespace Go.Proofs.YtbbbeldbhlehnaaGreat
open Go.RowKit Gno
/-- the world of CheckData's call, between two statements: the data's box. -/
structure WR (d : Dt) (w : World) (W : World) : Prop where
  below : Below w.heap.size w W
  d0 : W.heap[w.heap.size]? = some (Dobj d)
  size : w.heap.size + 1 ≤ W.heap.size
theorem WR.step {d : Dt} {w W W' : World} (h : WR d w W) (hb : Below W.heap.size W W') : WR d w W' :=
  ⟨h.below.trans (hb.mono h.below.size), (hb.block _ (by have := h.size; omega)).trans h.d0, by have := h.size; have := hb.size; omega⟩
theorem WR.cells {d : Dt} {w W : World} (h : WR d w W) :
    W.cell? ⟨w.heap.size, 0, none⟩ = some (.slice d.sA d.sn d.sc) ∧ W.cell? ⟨w.heap.size, 1, none⟩ = some (.slice d.zA d.zn d.zc) ∧ W.cell? ⟨w.heap.size, 2, none⟩ = some (.slice d.lA d.ln d.lc) := by
  have := h.d0
  exact ⟨by simp [World.cell?, this], by simp [World.cell?, this], by simp [World.cell?, this]⟩
structure LiveR (d : Dt) (w : World) (rs : List (Nat × Value)) (a : Act) (W : World) : Prop where
  size : a.tmps.size = 281
  regs : Regs ((1, .pointer (some ⟨w.heap.size, 0, none⟩)) :: rs) a.tmps
  defers : a.defers = []
  ws : WR d w W
/-- the n-th statement of CheckData's body. -/
noncomputable def stmR (n : Nat) : Code := nthS n (Tryz.f41.body.getD .skip)
abbrev QR (d : Dt) (w : World) : Exit → Act → World → Prop := bodyPost Tryz.prog Tryz.f41 (fun e w' => e = .returned (.int .i64 (dataE d)) ∧ Below w.heap.size w w')

set_option maxRecDepth 100000 in
theorem frameR0 (f : Nat → Value) (v1 : Value) : arrF (upd ((1, v1) :: []) f) 281 = #[f 0, v1, f 2, f 3, f 4, f 5, f 6, f 7, f 8, f 9, f 10, f 11, f 12, f 13, f 14, f 15, f 16, f 17, f 18, f 19, f 20, f 21, f 22, f 23, f 24, f 25, f 26, f 27, f 28, f 29, f 30, f 31, f 32, f 33, f 34, f 35, f 36, f 37, f 38, f 39, f 40, f 41, f 42, f 43, f 44, f 45, f 46, f 47, f 48, f 49, f 50, f 51, f 52, f 53, f 54, f 55, f 56, f 57, f 58, f 59, f 60, f 61, f 62, f 63, f 64, f 65, f 66, f 67, f 68, f 69, f 70, f 71, f 72, f 73, f 74, f 75, f 76, f 77, f 78, f 79, f 80, f 81, f 82, f 83, f 84, f 85, f 86, f 87, f 88, f 89, f 90, f 91, f 92, f 93, f 94, f 95, f 96, f 97, f 98, f 99, f 100, f 101, f 102, f 103, f 104, f 105, f 106, f 107, f 108, f 109, f 110, f 111, f 112, f 113, f 114, f 115, f 116, f 117, f 118, f 119, f 120, f 121, f 122, f 123, f 124, f 125, f 126, f 127, f 128, f 129, f 130, f 131, f 132, f 133, f 134, f 135, f 136, f 137, f 138, f 139, f 140, f 141, f 142, f 143, f 144, f 145, f 146, f 147, f 148, f 149, f 150, f 151, f 152, f 153, f 154, f 155, f 156, f 157, f 158, f 159, f 160, f 161, f 162, f 163, f 164, f 165, f 166, f 167, f 168, f 169, f 170, f 171, f 172, f 173, f 174, f 175, f 176, f 177, f 178, f 179, f 180, f 181, f 182, f 183, f 184, f 185, f 186, f 187, f 188, f 189, f 190, f 191, f 192, f 193, f 194, f 195, f 196, f 197, f 198, f 199, f 200, f 201, f 202, f 203, f 204, f 205, f 206, f 207, f 208, f 209, f 210, f 211, f 212, f 213, f 214, f 215, f 216, f 217, f 218, f 219, f 220, f 221, f 222, f 223, f 224, f 225, f 226, f 227, f 228, f 229, f 230, f 231, f 232, f 233, f 234, f 235, f 236, f 237, f 238, f 239, f 240, f 241, f 242, f 243, f 244, f 245, f 246, f 247, f 248, f 249, f 250, f 251, f 252, f 253, f 254, f 255, f 256, f 257, f 258, f 259, f 260, f 261, f 262, f 263, f 264, f 265, f 266, f 267, f 268, f 269, f 270, f 271, f 272, f 273, f 274, f 275, f 276, f 277, f 278, f 279, f 280] := by rfl
theorem openR0 {d : Dt} {w W : World} {a : Act} (h : LiveR d w [] a W) : ∃ (f : Nat → Value), a = { tmps := #[f 0, .pointer (some ⟨w.heap.size, 0, none⟩), f 2, f 3, f 4, f 5, f 6, f 7, f 8, f 9, f 10, f 11, f 12, f 13, f 14, f 15, f 16, f 17, f 18, f 19, f 20, f 21, f 22, f 23, f 24, f 25, f 26, f 27, f 28, f 29, f 30, f 31, f 32, f 33, f 34, f 35, f 36, f 37, f 38, f 39, f 40, f 41, f 42, f 43, f 44, f 45, f 46, f 47, f 48, f 49, f 50, f 51, f 52, f 53, f 54, f 55, f 56, f 57, f 58, f 59, f 60, f 61, f 62, f 63, f 64, f 65, f 66, f 67, f 68, f 69, f 70, f 71, f 72, f 73, f 74, f 75, f 76, f 77, f 78, f 79, f 80, f 81, f 82, f 83, f 84, f 85, f 86, f 87, f 88, f 89, f 90, f 91, f 92, f 93, f 94, f 95, f 96, f 97, f 98, f 99, f 100, f 101, f 102, f 103, f 104, f 105, f 106, f 107, f 108, f 109, f 110, f 111, f 112, f 113, f 114, f 115, f 116, f 117, f 118, f 119, f 120, f 121, f 122, f 123, f 124, f 125, f 126, f 127, f 128, f 129, f 130, f 131, f 132, f 133, f 134, f 135, f 136, f 137, f 138, f 139, f 140, f 141, f 142, f 143, f 144, f 145, f 146, f 147, f 148, f 149, f 150, f 151, f 152, f 153, f 154, f 155, f 156, f 157, f 158, f 159, f 160, f 161, f 162, f 163, f 164, f 165, f 166, f 167, f 168, f 169, f 170, f 171, f 172, f 173, f 174, f 175, f 176, f 177, f 178, f 179, f 180, f 181, f 182, f 183, f 184, f 185, f 186, f 187, f 188, f 189, f 190, f 191, f 192, f 193, f 194, f 195, f 196, f 197, f 198, f 199, f 200, f 201, f 202, f 203, f 204, f 205, f 206, f 207, f 208, f 209, f 210, f 211, f 212, f 213, f 214, f 215, f 216, f 217, f 218, f 219, f 220, f 221, f 222, f 223, f 224, f 225, f 226, f 227, f 228, f 229, f 230, f 231, f 232, f 233, f 234, f 235, f 236, f 237, f 238, f 239, f 240, f 241, f 242, f 243, f 244, f 245, f 246, f 247, f 248, f 249, f 250, f 251, f 252, f 253, f 254, f 255, f 256, f 257, f 258, f 259, f 260, f 261, f 262, f 263, f 264, f 265, f 266, f 267, f 268, f 269, f 270, f 271, f 272, f 273, f 274, f 275, f 276, f 277, f 278, f 279, f 280], defers := [] } ∧ WR d w W := by
  obtain ⟨tmps, ds⟩ := a
  obtain ⟨f, hf⟩ := arr_open h.size h.regs
  rw [frameR0] at hf
  have hd := h.defers
  dsimp only at hf hd
  subst hf hd
  exact ⟨f, rfl, h.ws⟩
set_option maxRecDepth 100000 in
theorem frameR2 (f : Nat → Value) (v1 v3 v4 : Value) : arrF (upd ((1, v1) :: (3, v3) :: (4, v4) :: []) f) 281 = #[f 0, v1, f 2, v3, v4, f 5, f 6, f 7, f 8, f 9, f 10, f 11, f 12, f 13, f 14, f 15, f 16, f 17, f 18, f 19, f 20, f 21, f 22, f 23, f 24, f 25, f 26, f 27, f 28, f 29, f 30, f 31, f 32, f 33, f 34, f 35, f 36, f 37, f 38, f 39, f 40, f 41, f 42, f 43, f 44, f 45, f 46, f 47, f 48, f 49, f 50, f 51, f 52, f 53, f 54, f 55, f 56, f 57, f 58, f 59, f 60, f 61, f 62, f 63, f 64, f 65, f 66, f 67, f 68, f 69, f 70, f 71, f 72, f 73, f 74, f 75, f 76, f 77, f 78, f 79, f 80, f 81, f 82, f 83, f 84, f 85, f 86, f 87, f 88, f 89, f 90, f 91, f 92, f 93, f 94, f 95, f 96, f 97, f 98, f 99, f 100, f 101, f 102, f 103, f 104, f 105, f 106, f 107, f 108, f 109, f 110, f 111, f 112, f 113, f 114, f 115, f 116, f 117, f 118, f 119, f 120, f 121, f 122, f 123, f 124, f 125, f 126, f 127, f 128, f 129, f 130, f 131, f 132, f 133, f 134, f 135, f 136, f 137, f 138, f 139, f 140, f 141, f 142, f 143, f 144, f 145, f 146, f 147, f 148, f 149, f 150, f 151, f 152, f 153, f 154, f 155, f 156, f 157, f 158, f 159, f 160, f 161, f 162, f 163, f 164, f 165, f 166, f 167, f 168, f 169, f 170, f 171, f 172, f 173, f 174, f 175, f 176, f 177, f 178, f 179, f 180, f 181, f 182, f 183, f 184, f 185, f 186, f 187, f 188, f 189, f 190, f 191, f 192, f 193, f 194, f 195, f 196, f 197, f 198, f 199, f 200, f 201, f 202, f 203, f 204, f 205, f 206, f 207, f 208, f 209, f 210, f 211, f 212, f 213, f 214, f 215, f 216, f 217, f 218, f 219, f 220, f 221, f 222, f 223, f 224, f 225, f 226, f 227, f 228, f 229, f 230, f 231, f 232, f 233, f 234, f 235, f 236, f 237, f 238, f 239, f 240, f 241, f 242, f 243, f 244, f 245, f 246, f 247, f 248, f 249, f 250, f 251, f 252, f 253, f 254, f 255, f 256, f 257, f 258, f 259, f 260, f 261, f 262, f 263, f 264, f 265, f 266, f 267, f 268, f 269, f 270, f 271, f 272, f 273, f 274, f 275, f 276, f 277, f 278, f 279, f 280] := by rfl
theorem openR2 {d : Dt} {w W : World} {a : Act} {v3 v4 : Value} (h : LiveR d w [(3, v3), (4, v4)] a W) : ∃ (f : Nat → Value), a = { tmps := #[f 0, .pointer (some ⟨w.heap.size, 0, none⟩), f 2, v3, v4, f 5, f 6, f 7, f 8, f 9, f 10, f 11, f 12, f 13, f 14, f 15, f 16, f 17, f 18, f 19, f 20, f 21, f 22, f 23, f 24, f 25, f 26, f 27, f 28, f 29, f 30, f 31, f 32, f 33, f 34, f 35, f 36, f 37, f 38, f 39, f 40, f 41, f 42, f 43, f 44, f 45, f 46, f 47, f 48, f 49, f 50, f 51, f 52, f 53, f 54, f 55, f 56, f 57, f 58, f 59, f 60, f 61, f 62, f 63, f 64, f 65, f 66, f 67, f 68, f 69, f 70, f 71, f 72, f 73, f 74, f 75, f 76, f 77, f 78, f 79, f 80, f 81, f 82, f 83, f 84, f 85, f 86, f 87, f 88, f 89, f 90, f 91, f 92, f 93, f 94, f 95, f 96, f 97, f 98, f 99, f 100, f 101, f 102, f 103, f 104, f 105, f 106, f 107, f 108, f 109, f 110, f 111, f 112, f 113, f 114, f 115, f 116, f 117, f 118, f 119, f 120, f 121, f 122, f 123, f 124, f 125, f 126, f 127, f 128, f 129, f 130, f 131, f 132, f 133, f 134, f 135, f 136, f 137, f 138, f 139, f 140, f 141, f 142, f 143, f 144, f 145, f 146, f 147, f 148, f 149, f 150, f 151, f 152, f 153, f 154, f 155, f 156, f 157, f 158, f 159, f 160, f 161, f 162, f 163, f 164, f 165, f 166, f 167, f 168, f 169, f 170, f 171, f 172, f 173, f 174, f 175, f 176, f 177, f 178, f 179, f 180, f 181, f 182, f 183, f 184, f 185, f 186, f 187, f 188, f 189, f 190, f 191, f 192, f 193, f 194, f 195, f 196, f 197, f 198, f 199, f 200, f 201, f 202, f 203, f 204, f 205, f 206, f 207, f 208, f 209, f 210, f 211, f 212, f 213, f 214, f 215, f 216, f 217, f 218, f 219, f 220, f 221, f 222, f 223, f 224, f 225, f 226, f 227, f 228, f 229, f 230, f 231, f 232, f 233, f 234, f 235, f 236, f 237, f 238, f 239, f 240, f 241, f 242, f 243, f 244, f 245, f 246, f 247, f 248, f 249, f 250, f 251, f 252, f 253, f 254, f 255, f 256, f 257, f 258, f 259, f 260, f 261, f 262, f 263, f 264, f 265, f 266, f 267, f 268, f 269, f 270, f 271, f 272, f 273, f 274, f 275, f 276, f 277, f 278, f 279, f 280], defers := [] } ∧ WR d w W := by
  obtain ⟨tmps, ds⟩ := a
  obtain ⟨f, hf⟩ := arr_open h.size h.regs
  rw [frameR2] at hf
  have hd := h.defers
  dsimp only at hf hd
  subst hf hd
  exact ⟨f, rfl, h.ws⟩
set_option maxRecDepth 100000 in
theorem frameR3 (f : Nat → Value) (v1 v3 v4 v7 : Value) : arrF (upd ((1, v1) :: (3, v3) :: (4, v4) :: (7, v7) :: []) f) 281 = #[f 0, v1, f 2, v3, v4, f 5, f 6, v7, f 8, f 9, f 10, f 11, f 12, f 13, f 14, f 15, f 16, f 17, f 18, f 19, f 20, f 21, f 22, f 23, f 24, f 25, f 26, f 27, f 28, f 29, f 30, f 31, f 32, f 33, f 34, f 35, f 36, f 37, f 38, f 39, f 40, f 41, f 42, f 43, f 44, f 45, f 46, f 47, f 48, f 49, f 50, f 51, f 52, f 53, f 54, f 55, f 56, f 57, f 58, f 59, f 60, f 61, f 62, f 63, f 64, f 65, f 66, f 67, f 68, f 69, f 70, f 71, f 72, f 73, f 74, f 75, f 76, f 77, f 78, f 79, f 80, f 81, f 82, f 83, f 84, f 85, f 86, f 87, f 88, f 89, f 90, f 91, f 92, f 93, f 94, f 95, f 96, f 97, f 98, f 99, f 100, f 101, f 102, f 103, f 104, f 105, f 106, f 107, f 108, f 109, f 110, f 111, f 112, f 113, f 114, f 115, f 116, f 117, f 118, f 119, f 120, f 121, f 122, f 123, f 124, f 125, f 126, f 127, f 128, f 129, f 130, f 131, f 132, f 133, f 134, f 135, f 136, f 137, f 138, f 139, f 140, f 141, f 142, f 143, f 144, f 145, f 146, f 147, f 148, f 149, f 150, f 151, f 152, f 153, f 154, f 155, f 156, f 157, f 158, f 159, f 160, f 161, f 162, f 163, f 164, f 165, f 166, f 167, f 168, f 169, f 170, f 171, f 172, f 173, f 174, f 175, f 176, f 177, f 178, f 179, f 180, f 181, f 182, f 183, f 184, f 185, f 186, f 187, f 188, f 189, f 190, f 191, f 192, f 193, f 194, f 195, f 196, f 197, f 198, f 199, f 200, f 201, f 202, f 203, f 204, f 205, f 206, f 207, f 208, f 209, f 210, f 211, f 212, f 213, f 214, f 215, f 216, f 217, f 218, f 219, f 220, f 221, f 222, f 223, f 224, f 225, f 226, f 227, f 228, f 229, f 230, f 231, f 232, f 233, f 234, f 235, f 236, f 237, f 238, f 239, f 240, f 241, f 242, f 243, f 244, f 245, f 246, f 247, f 248, f 249, f 250, f 251, f 252, f 253, f 254, f 255, f 256, f 257, f 258, f 259, f 260, f 261, f 262, f 263, f 264, f 265, f 266, f 267, f 268, f 269, f 270, f 271, f 272, f 273, f 274, f 275, f 276, f 277, f 278, f 279, f 280] := by rfl
theorem openR3 {d : Dt} {w W : World} {a : Act} {v3 v4 v7 : Value} (h : LiveR d w [(3, v3), (4, v4), (7, v7)] a W) : ∃ (f : Nat → Value), a = { tmps := #[f 0, .pointer (some ⟨w.heap.size, 0, none⟩), f 2, v3, v4, f 5, f 6, v7, f 8, f 9, f 10, f 11, f 12, f 13, f 14, f 15, f 16, f 17, f 18, f 19, f 20, f 21, f 22, f 23, f 24, f 25, f 26, f 27, f 28, f 29, f 30, f 31, f 32, f 33, f 34, f 35, f 36, f 37, f 38, f 39, f 40, f 41, f 42, f 43, f 44, f 45, f 46, f 47, f 48, f 49, f 50, f 51, f 52, f 53, f 54, f 55, f 56, f 57, f 58, f 59, f 60, f 61, f 62, f 63, f 64, f 65, f 66, f 67, f 68, f 69, f 70, f 71, f 72, f 73, f 74, f 75, f 76, f 77, f 78, f 79, f 80, f 81, f 82, f 83, f 84, f 85, f 86, f 87, f 88, f 89, f 90, f 91, f 92, f 93, f 94, f 95, f 96, f 97, f 98, f 99, f 100, f 101, f 102, f 103, f 104, f 105, f 106, f 107, f 108, f 109, f 110, f 111, f 112, f 113, f 114, f 115, f 116, f 117, f 118, f 119, f 120, f 121, f 122, f 123, f 124, f 125, f 126, f 127, f 128, f 129, f 130, f 131, f 132, f 133, f 134, f 135, f 136, f 137, f 138, f 139, f 140, f 141, f 142, f 143, f 144, f 145, f 146, f 147, f 148, f 149, f 150, f 151, f 152, f 153, f 154, f 155, f 156, f 157, f 158, f 159, f 160, f 161, f 162, f 163, f 164, f 165, f 166, f 167, f 168, f 169, f 170, f 171, f 172, f 173, f 174, f 175, f 176, f 177, f 178, f 179, f 180, f 181, f 182, f 183, f 184, f 185, f 186, f 187, f 188, f 189, f 190, f 191, f 192, f 193, f 194, f 195, f 196, f 197, f 198, f 199, f 200, f 201, f 202, f 203, f 204, f 205, f 206, f 207, f 208, f 209, f 210, f 211, f 212, f 213, f 214, f 215, f 216, f 217, f 218, f 219, f 220, f 221, f 222, f 223, f 224, f 225, f 226, f 227, f 228, f 229, f 230, f 231, f 232, f 233, f 234, f 235, f 236, f 237, f 238, f 239, f 240, f 241, f 242, f 243, f 244, f 245, f 246, f 247, f 248, f 249, f 250, f 251, f 252, f 253, f 254, f 255, f 256, f 257, f 258, f 259, f 260, f 261, f 262, f 263, f 264, f 265, f 266, f 267, f 268, f 269, f 270, f 271, f 272, f 273, f 274, f 275, f 276, f 277, f 278, f 279, f 280], defers := [] } ∧ WR d w W := by
  obtain ⟨tmps, ds⟩ := a
  obtain ⟨f, hf⟩ := arr_open h.size h.regs
  rw [frameR3] at hf
  have hd := h.defers
  dsimp only at hf hd
  subst hf hd
  exact ⟨f, rfl, h.ws⟩
end Go.Proofs.YtbbbeldbhlehnaaGreat
end
/-! gnomonref.CheckData: the first statements. -/
section
set_option linter.unusedVariables false
set_option linter.unusedSimpArgs false
namespace Go.Proofs.YtbbbeldbhlehnaaGreat
open Go.RowKit Gno
set_option maxRecDepth 100000 in
set_option maxHeartbeats 4000000 in
theorem rt1 {d : Dt} {w W : World} {a : Act} {K : Act → World → Prop} (hL : LiveR d w [] a W) (hK : ∀ a' W', manyD d = false → LiveR d w [] a' W' → K a' W') :
    (stmR 1).wp Tryz.prog (Exit.then K (QR d w)) a W := by
  obtain ⟨f, rfl, hws⟩ := openR0 hL
  clear hL
  obtain ⟨c0, c1, c2⟩ := hws.cells
  have HW := Lib.hid hws
  have HK := Lib.hid hK
  clear hws hK
  conv => arg 2; whnf
  by_cases h1 : d.sn ≤ 3
  · have g1 : decide ((3 : Int) < (d.sn : Int)) = false := by simp; omega
    by_cases h2 : d.zn ≤ 5
    · have g2 : decide ((5 : Int) < (d.zn : Int)) = false := by simp; omega
      by_cases h3 : d.ln ≤ 4
      · have g3 : decide ((4 : Int) < (d.ln : Int)) = false := by simp; omega
        have HM := Lib.hid (manyD_no h1 h2 h3)
        clear h1 h2 h3
        go_wp2
        exact HK.out _ _ HM.out ⟨rfl, ⟨rfl, trivial⟩, rfl, HW.out⟩
      · have g3 : decide ((4 : Int) < (d.ln : Int)) = true := by simp; omega
        have HM : Hid (dataE d = 2) := Lib.hid (by unfold dataE; rw [if_pos (by unfold manyD; simp [h3])])
        clear h3
        go_wp2
        go_ret
        exact ⟨ret_int HM.out.symm, HW.out.below⟩
    · have g2 : decide ((5 : Int) < (d.zn : Int)) = true := by simp; omega
      have HM : Hid (dataE d = 2) := Lib.hid (by unfold dataE; rw [if_pos (by unfold manyD; simp [h2])])
      clear h2
      go_wp2
      go_ret
      exact ⟨ret_int HM.out.symm, HW.out.below⟩
  · have g1 : decide ((3 : Int) < (d.sn : Int)) = true := by simp; omega
    have HM : Hid (dataE d = 2) := Lib.hid (by unfold dataE; rw [if_pos (by unfold manyD; simp [h1])])
    clear h1
    go_wp2
    go_ret
    exact ⟨ret_int HM.out.symm, HW.out.below⟩
set_option maxRecDepth 100000 in
set_option maxHeartbeats 4000000 in
theorem rt2 {d : Dt} {w W : World} {a : Act} {K : Act → World → Prop} (hL : LiveR d w [] a W) (hK : ∀ a', LiveR d w [(3, .slice none 0 0), (4, .slice none 0 0)] a' W → K a' W) :
    (stmR 2).wp Tryz.prog (Exit.then K (QR d w)) a W := by
  obtain ⟨f, rfl, hws⟩ := openR0 hL
  clear hL
  have HW := Lib.hid hws
  have HK := Lib.hid hK
  clear hws hK
  conv => arg 2; whnf
  go_wp2
  exact HK.out _ ⟨rfl, ⟨rfl, rfl, rfl, trivial⟩, rfl, HW.out⟩
set_option maxRecDepth 100000 in
set_option maxHeartbeats 8000000 in
theorem rt3 {d : Dt} {w W : World} {a : Act} {K : Act → World → Prop} {v3 v4 : Value} (hD : DataAt w w.heap.size d) (hM : manyD d = false) (hE : dataE d = dE1 d) (hL : LiveR d w [(3, v3), (4, v4)] a W) (hv : v3 = .slice none 0 0)
    (hK : ∀ a' W' v, anyI (fun _ => manyRules) d.ss = false → LiveR d w [(3, v), (4, v4)] a' W' → W'.ownsRow W.heap.size 9 1 v d.sn (strs (sNames d)) → Below W.heap.size W W' → K a' W') :
    (stmR 3).wp Tryz.prog (Exit.then K (QR d w)) a W := by
  subst hv
  obtain ⟨f, rfl, hws⟩ := openR2 hL
  clear hL
  have HW := Lib.hid hws
  have HK := Lib.hid hK
  have HE := Lib.hid hE
  have hsz := hws.size
  have HD := Lib.hid ((hD.next hws.below).1)
  have hle := manyD_le hM
  have hn : d.sn ≤ 100 := by omega
  have HLE := Lib.hid HD.out.1
  clear hws hK hE hD hM hle
  conv => arg 2; whnf
  go_wp2
  go_loopw [3, 5] (fun bo b wr => ∃ i : Nat, i ≤ d.sn ∧ b = .int .i64 i ∧ Hid (anyTo (atI (fun _ => manyRules) d.ss) i = false) ∧ wr.ownsRow W.heap.size 9 1 bo i (strs ((sNames d).take i)) ∧ Below W.heap.size W wr) (fun _ b _ => d.sn - (intOf b).toNat)
  case atStart => exact ⟨0, Nat.zero_le _, rfl, Lib.hid rfl, World.ownsRow_nil _ _ _ _, Below.refl _ _⟩
  case round =>
    obtain ⟨i, hi, rfl, hfi, hown, hb⟩ := hrel
    obtain ⟨c0, c1, c2⟩ := (HW.out.step hb).cells
    by_cases hit : i < d.sn
    · obtain ⟨b, o, q, hA, hbB, hq, hq1, hq2⟩ := sets_get HD.out hit
      have HQ := Lib.hid hq
      obtain ⟨⟨e0, e1⟩, _⟩ := hq2 _ hb
      have hqn : q.n ≤ 9223372036854775807 := ((hq2 _ hb).2).2.1
      have HA := Lib.hid hA
      rw [hA] at c0
      have HT : Hid (strs ((sNames d).take (i + 1)) = strs ((sNames d).take i) ++ [.string q.name]) := Lib.hid (by
        have h1 : (sNames d)[i]? = some q.name := by simp [sNames, hq]
        rw [take_snoc' h1]; simp [strs])
      have HQ2 := Lib.hid hq2
      have HC : Hid (∀ w1, Below W.heap.size W w1 → w1.cell? ⟨w.heap.size, 0, none⟩ = some (.slice (some ⟨b, o, none⟩) d.sn d.sc)) := Lib.hid (fun w1 h1 => by rw [← HA.out]; exact (HW.out.step h1).cells.1)
      clear hq hq2 hA
      cases h1 : withinB q.n 1 4
      · have g1 := (within_any q.n 1 4); rw [h1] at g1
        have G1 := Lib.hid g1
        have HM : Hid (dataE d = 2) := Lib.hid (by
          have := (withinB_no _ _ _).1 h1
          rw [HE.out]; unfold dE1; rw [if_pos (anyI_yes HQ.out (by unfold manyRules; simp; omega))])
        clear g1 h1 hfi
        go_wp2_with (first
          | (at_builtin; go_must (refine wpList_app hb hb.size #[.string q.name] 9 rfl _ _ 31 rfl Tryz.underlying31 (.string ⟨#[]⟩) 1 16 infoStr rfl (by decide) _ i _ rfl hown _ rfl rfl (by intro u hu; simp at hu; subst hu; rfl) (by unfold maxLen; omega) (by omega) ?_); intro v' w1 hown1 hb1 hz1; clear c0 c1 c2; have k0 := HC.out _ hb1; obtain ⟨⟨e0', e1'⟩, _⟩ := HQ2.out _ hb1)
          | (go_at_call 43; (with_reducible refine (G1.out _).mono ?_); rintro e w4 ⟨rfl, rfl⟩))
        go_ret
        exact ⟨ret_int HM.out.symm, (HW.out.step hb1).below⟩
      · have g1 := (within_any q.n 1 4); rw [h1] at g1
        have G1 := Lib.hid g1
        have HM := Lib.hid (anyI_no (p := fun _ => manyRules) HQ.out hfi.out (by have := (withinB_iff _ _ _).1 h1; unfold manyRules; simp; omega))
        clear g1 h1 hfi
        go_wp2_with (first
          | (at_builtin; go_must (refine wpList_app hb hb.size #[.string q.name] 9 rfl _ _ 31 rfl Tryz.underlying31 (.string ⟨#[]⟩) 1 16 infoStr rfl (by decide) _ i _ rfl hown _ rfl rfl (by intro u hu; simp at hu; subst hu; rfl) (by unfold maxLen; omega) (by omega) ?_); intro v' w1 hown1 hb1 hz1; clear c0 c1 c2; have k0 := HC.out _ hb1; obtain ⟨⟨e0', e1'⟩, _⟩ := HQ2.out _ hb1)
          | (go_at_call 43; (with_reducible refine (G1.out _).mono ?_); rintro e w4 ⟨rfl, rfl⟩))
        go_roundw
        case rel => exact ⟨i + 1, by omega, by go_num, HM, by rw [HT.out]; exact hown1, hb1⟩
        case measure => simp [intOf]; omega
    · have HM := Lib.hid (anyI_end (by rw [HLE.out]; omega) (by rw [HLE.out]; exact hi) hfi.out)
      have hown2 : wr.ownsRow W.heap.size 9 1 u3 d.sn (strs (sNames d)) := by
        have h1 := hown
        rw [List.take_of_length_le (by unfold sNames; rw [List.length_map, HLE.out]; omega), show i = d.sn by omega] at h1
        exact h1
      have HO := Lib.hid hown2
      clear hfi hown hown2
      go_wp2
      exact HK.out _ _ _ HM.out ⟨rfl, ⟨rfl, rfl, rfl, trivial⟩, rfl, HW.out.step hb⟩ HO.out hb
set_option maxRecDepth 100000 in
set_option maxHeartbeats 8000000 in
theorem rt4 {d : Dt} {w W : World} {a : Act} {K : Act → World → Prop} {v3 v4 : Value} (hD : DataAt w w.heap.size d) (hM : manyD d = false) (hE : dataE d = dE2 d) (hL : LiveR d w [(3, v3), (4, v4)] a W) (hv : v4 = .slice none 0 0)
    (hK : ∀ a' W' v, anyI (fun _ => manyEras) d.zs = false → LiveR d w [(3, v3), (4, v)] a' W' → W'.ownsRow W.heap.size 9 1 v d.zn (strs (zNames d)) → Below W.heap.size W W' → K a' W') :
    (stmR 4).wp Tryz.prog (Exit.then K (QR d w)) a W := by
  subst hv
  obtain ⟨f, rfl, hws⟩ := openR2 hL
  clear hL
  have HW := Lib.hid hws
  have HK := Lib.hid hK
  have HE := Lib.hid hE
  have hsz := hws.size
  have HD := Lib.hid ((hD.next hws.below).2.1)
  have hle := manyD_le hM
  have hn : d.zn ≤ 100 := by omega
  have HLE := Lib.hid HD.out.1
  clear hws hK hE hD hM hle
  conv => arg 2; whnf
  go_wp2
  go_loopw [4, 6] (fun bo b wr => ∃ i : Nat, i ≤ d.zn ∧ b = .int .i64 i ∧ Hid (anyTo (atI (fun _ => manyEras) d.zs) i = false) ∧ wr.ownsRow W.heap.size 9 1 bo i (strs ((zNames d).take i)) ∧ Below W.heap.size W wr) (fun _ b _ => d.zn - (intOf b).toNat)
  case atStart => exact ⟨0, Nat.zero_le _, rfl, Lib.hid rfl, World.ownsRow_nil _ _ _ _, Below.refl _ _⟩
  case round =>
    obtain ⟨i, hi, rfl, hfi, hown, hb⟩ := hrel
    obtain ⟨c0, c1, c2⟩ := (HW.out.step hb).cells
    by_cases hit : i < d.zn
    · obtain ⟨b, o, q, hA, hbB, hq, hq1, hq2⟩ := zones_get HD.out hit
      have HQ := Lib.hid hq
      obtain ⟨⟨e0, e1⟩, _⟩ := hq2 _ hb
      have hqn : q.n ≤ 9223372036854775807 := ((hq2 _ hb).2).2.1
      have HA := Lib.hid hA
      rw [hA] at c1
      have HT : Hid (strs ((zNames d).take (i + 1)) = strs ((zNames d).take i) ++ [.string q.name]) := Lib.hid (by
        have h1 : (zNames d)[i]? = some q.name := by simp [zNames, hq]
        rw [take_snoc' h1]; simp [strs])
      have HQ2 := Lib.hid hq2
      have HC : Hid (∀ w1, Below W.heap.size W w1 → w1.cell? ⟨w.heap.size, 1, none⟩ = some (.slice (some ⟨b, o, none⟩) d.zn d.zc)) := Lib.hid (fun w1 h1 => by rw [← HA.out]; exact (HW.out.step h1).cells.2.1)
      clear hq hq2 hA
      cases h1 : withinB q.n 1 4
      · have g1 := (within_any q.n 1 4); rw [h1] at g1
        have G1 := Lib.hid g1
        have HM : Hid (dataE d = 2) := Lib.hid (by
          have := (withinB_no _ _ _).1 h1
          rw [HE.out]; unfold dE2; rw [if_pos (anyI_yes HQ.out (by unfold manyEras; simp; omega))])
        clear g1 h1 hfi
        go_wp2_with (first
          | (at_builtin; go_must (refine wpList_app hb hb.size #[.string q.name] 9 rfl _ _ 31 rfl Tryz.underlying31 (.string ⟨#[]⟩) 1 16 infoStr rfl (by decide) _ i _ rfl hown _ rfl rfl (by intro u hu; simp at hu; subst hu; rfl) (by unfold maxLen; omega) (by omega) ?_); intro v' w1 hown1 hb1 hz1; clear c0 c1 c2; have k0 := HC.out _ hb1; obtain ⟨⟨e0', e1'⟩, _⟩ := HQ2.out _ hb1)
          | (go_at_call 43; (with_reducible refine (G1.out _).mono ?_); rintro e w4 ⟨rfl, rfl⟩))
        go_ret
        exact ⟨ret_int HM.out.symm, (HW.out.step hb1).below⟩
      · have g1 := (within_any q.n 1 4); rw [h1] at g1
        have G1 := Lib.hid g1
        have HM := Lib.hid (anyI_no (p := fun _ => manyEras) HQ.out hfi.out (by have := (withinB_iff _ _ _).1 h1; unfold manyEras; simp; omega))
        clear g1 h1 hfi
        go_wp2_with (first
          | (at_builtin; go_must (refine wpList_app hb hb.size #[.string q.name] 9 rfl _ _ 31 rfl Tryz.underlying31 (.string ⟨#[]⟩) 1 16 infoStr rfl (by decide) _ i _ rfl hown _ rfl rfl (by intro u hu; simp at hu; subst hu; rfl) (by unfold maxLen; omega) (by omega) ?_); intro v' w1 hown1 hb1 hz1; clear c0 c1 c2; have k0 := HC.out _ hb1; obtain ⟨⟨e0', e1'⟩, _⟩ := HQ2.out _ hb1)
          | (go_at_call 43; (with_reducible refine (G1.out _).mono ?_); rintro e w4 ⟨rfl, rfl⟩))
        go_roundw
        case rel => exact ⟨i + 1, by omega, by go_num, HM, by rw [HT.out]; exact hown1, hb1⟩
        case measure => simp [intOf]; omega
    · have HM := Lib.hid (anyI_end (by rw [HLE.out]; omega) (by rw [HLE.out]; exact hi) hfi.out)
      have hown2 : wr.ownsRow W.heap.size 9 1 u4 d.zn (strs (zNames d)) := by
        have h1 := hown
        rw [List.take_of_length_le (by unfold zNames; rw [List.length_map, HLE.out]; omega), show i = d.zn by omega] at h1
        exact h1
      have HO := Lib.hid hown2
      clear hfi hown hown2
      go_wp2
      exact HK.out _ _ _ HM.out ⟨rfl, ⟨rfl, rfl, rfl, trivial⟩, rfl, HW.out.step hb⟩ HO.out hb
end Go.Proofs.YtbbbeldbhlehnaaGreat
end
/-! data.Check: each era (the first loop over data.eras). -/
section
set_option linter.unusedVariables false
set_option linter.unusedSimpArgs false
namespace Gno
open Go
theorem any_mid {α : Type} {p : α → Bool} {l pre rest : List α} {x : α} (h : l = pre ++ x :: rest) (hx : p x = true) : l.any p = true := by subst h; simp [hx]
theorem any_more {α : Type} {p : α → Bool} {pre : List α} {x : α} (h : pre.any p = false) (hx : p x = false) : (pre ++ [x]).any p = false := by rw [List.any_append, h]; simp [hx]
end Gno
namespace Go.Proofs.YtbbbeldbhlehnaaGreat
open Go.RowKit Gno Go.Shelf
attribute [local go_sem] Oper.semAt_some
/-- a mark more. -/
theorem WS.mark {d : Dt} {w W W' : World} {ds : List Deferred} {r : Nat} (h : WS d w ds W) (hb : Below W.heap.size W W') (hr : W.heap.size ≤ r) (hd : W'.heap[r]? = some (.deferred (some []))) :
    WS d w ({ target := .collected r, args := #[] } :: ds) W' := by
  have h1 := h.step hb
  refine ⟨h1.below, h1.d0, h1.e0, h1.size, ?_⟩
  obtain ⟨rs, e1, e2, e3⟩ := h.marks
  have hs := h.size
  refine ⟨r :: rs, by rw [e1]; rfl, List.nodup_cons.2 ⟨fun hm => ?_, e2⟩, fun q hq => ?_⟩
  · have := (Array.getElem?_eq_some_iff.1 (e3 r hm).2).1
    omega
  · rcases List.mem_cons.1 hq with rfl | hq
    · exact ⟨by omega, hd⟩
    · exact ⟨(e3 q hq).1, (hb.block _ (Array.getElem?_eq_some_iff.1 (e3 q hq).2).1).trans (e3 q hq).2⟩
set_option maxRecDepth 100000 in
set_option maxHeartbeats 8000000 in
theorem st12 {d : Dt} {w W : World} {a : Act} {K : Act → World → Prop} {v7 v8 v9 v10 : Value} (hD : DataAt w w.heap.size d) (hM : manyD d = false) (hE : dataE d = dE6 d)
    (hL : Live d w [(7, v7), (8, v8), (9, v9), (10, v10)] a W)
    (hK : ∀ a' W', (erasL d.zs).any (badE d) = false → Live d w [(7, v7), (8, v8), (9, v9), (10, v10)] a' W' → Below W.heap.size W W' → K a' W') :
    Code.wpV Tryz.prog (stmD 12) (Exit.then K (QD d w)) a W := by
  obtain ⟨f, ds, rfl, hws⟩ := openS4 hL
  clear hL
  obtain ⟨c0, c1, c2⟩ := hws.cells
  have HW := Lib.hid hws
  have HK := Lib.hid hK
  have HE := Lib.hid hE
  have hsz := hws.size
  have HY := yes_out 3
  have HN := no_out 3
  have hle := (manyD_le hM).1
  have HSN : Hid (d.sn ≤ maxLen) := Lib.hid (by unfold maxLen; omega)
  have HD := Lib.hid ((hD.next hws.below).2.1)
  have CE : Hid (∀ w, Calls Tryz.prog 73 #[.agg #[.slice d.sA d.sn d.sc, .slice d.zA d.zn d.zc, .slice d.lA d.ln d.lc]] w fun e w' => e = .returned (.func (.func 101) #[] #[.pointer (some ⟨w.heap.size, 0, none⟩)]) ∧
      w' = w.alloc (.cells #[.slice d.sA d.sn d.sc, .slice d.zA d.zn d.zc, .slice d.lA d.ln d.lc] 26)) := Lib.hid (fun w => eras_any d w)
  clear hws hK hE hD hM hle
  conv => arg 2; whnf
  refine wpV_plain fun K1 hK1 => ?_
  have HK1 := Lib.hid hK1
  clear hK1
  go_wp2_with (go_at_call 73; (with_reducible refine (CE.out _).mono ?_); rintro e w4 ⟨rfl, rfl⟩)
  refine HK1.out _ _ ?_
  clear HK1 CE
  have hb1 : Below W.heap.size W (W.alloc (.cells #[.slice d.sA d.sn d.sc, .slice d.zA d.zn d.zc, .slice d.lA d.ln d.lc] 26)) := (Below.refl _ _).alloc (Nat.le_refl _) _
  obtain ⟨W1, hW1⟩ : ∃ W1, W1 = W.alloc (.cells #[.slice d.sA d.sn d.sc, .slice d.zA d.zn d.zc, .slice d.lA d.ln d.lc] 26) := ⟨_, rfl⟩
  have hz1 : W1.heap.size = W.heap.size + 1 := by rw [hW1]; simp
  have hc1 : W1.cell? ⟨W.heap.size, 1, none⟩ = some (.slice d.zA d.zn d.zc) := by rw [hW1]; simp
  rw [← hW1] at hb1 ⊢
  clear hW1
  refine wpV_block ?_
  refine wpV_range (gf := 101) (lb := #[.pointer (some ⟨W.heap.size, 0, none⟩)]) (encs := encEr) (xs := erasL d.zs) (n0 := W.heap.size) rfl (enters_of Tryz.func101 (by kernel_rfl) rfl) (fun x => rfl)
    (eras_seq d W.heap.size W.heap.size W1 (SlAt.below keeps_zn HD.out hb1 (Nat.le_refl _)) hb1.size (by omega) hc1) hb1.size
    (fun pre V => Hid (pre.any (badE d) = false) ∧ Below W.heap.size W V) (fun ch V => Hid (ch = thrown 3 ∧ dataE d = 3) ∧ Below W.heap.size W V)
    (fun pre A B h hb => ⟨h.1, h.2.trans (hb.mono hb1.size)⟩) ⟨Lib.hid rfl, hb1⟩ ?round ?done ?panic
  case done =>
    rintro W' ⟨hp, hb⟩ hk hz
    simp only [Exit.inBlock, Exit.then]
    exact HK.out _ _ hp.out ⟨rfl, ⟨rfl, rfl, rfl, rfl, rfl, rfl, trivial⟩, HW.out.mark hb (by omega) hk⟩ hb
  case panic =>
    rintro ch W' ⟨hp, hb⟩ hk
    obtain ⟨rfl, hF⟩ := hp.out
    simp only [Exit.inBlock, Exit.then]
    exact door_out hF (HW.out.mark hb (by omega) hk) rfl
  case round =>
    rintro pre ⟨x, ahead⟩ rest V hx ⟨hp, hb⟩ hz
    have HX := Lib.hid hx
    have hzV : W.heap.size + 3 ≤ V.heap.size := by omega
    clear hx
    dsimp only [encEr, Er.val]
    gi_wp2
    refine ⟨(Below.refl _ _).alloc (Nat.le_refl _) _, ?_⟩
    intro V2 hb2 hk2 hs2
    have hbV : Below W.heap.size W V2 := (hb.alloc hb.size _).trans (hb2.mono (by omega))
    have hcell : ∀ i, V2.cell? ⟨V.heap.size, i, none⟩ = (V.alloc (.cells #[.int .i64 x.std, .int .i64 x.set, .int .i64 x.save, .string x.fmt, .int .i64 x.til] 83)).cell? ⟨V.heap.size, i, none⟩ := fun i =>
      World.cell?_of_block (w := V.alloc (.cells #[.int .i64 x.std, .int .i64 x.set, .int .i64 x.save, .string x.fmt, .int .i64 x.til] 83)) (a := ⟨V.heap.size, i, none⟩) (hk2 V.heap.size (by omega))
    have g0 : V2.cell? ⟨V.heap.size, 0, none⟩ = some (.int .i64 x.std) := by rw [hcell]; simp
    have g1 : V2.cell? ⟨V.heap.size, 1, none⟩ = some (.int .i64 x.set) := by rw [hcell]; simp
    have g2 : V2.cell? ⟨V.heap.size, 2, none⟩ = some (.int .i64 x.save) := by rw [hcell]; simp
    have g3 : V2.cell? ⟨V.heap.size, 3, none⟩ = some (.string x.fmt) := by rw [hcell]; simp
    have g4 : V2.cell? ⟨V.heap.size, 4, none⟩ = some (.int .i64 x.til) := by rw [hcell]; simp
    obtain ⟨m0, m1, m2⟩ := (HW.out.step hbV).cells
    have hz2 : V2.heap.size = V.heap.size + 1 := by rw [hs2]; simp
    have ER1 : ∀ w, Calls Tryz.prog 74 #[.agg #[.slice d.sA d.sn d.sc, .slice d.zA d.zn d.zc, .slice d.lA d.ln d.lc], .agg #[.int .i64 x.std, .int .i64 x.set, .int .i64 x.save, .string x.fmt, .int .i64 x.til], .int .i64 ahead] w fun e w' => e = .returned (.bool (eraOk d.sn x ahead)) ∧ Below w.heap.size w w' := fun w => era_any d x ahead w HSN.out
    clear hcell hb2 hk2 hs2 hb
    cases hok : eraOk d.sn x ahead
    · rw [hok] at ER1
      have ER := Lib.hid ER1
      have HM : Hid (dataE d = 3) := Lib.hid (by rw [HE.out]; unfold dE6; rw [if_pos (any_mid HX.out (by unfold badE; simp [hok]))])
      clear ER1 hok hp
      gi_wp2_with (first
        | (refine ⟨trivial, ?_⟩; gi_at_call 74; (with_reducible refine (CallsIn.inRound _ (callsIn_wide.2 (ER.out _))).mono ?_); rintro e w5 ⟨rfl, hb5⟩)
        | (refine ⟨trivial, ?_⟩; gi_at_call 62; (with_reducible refine (CallsIn.inRound _ (callsIn_wide.2 (HN.out _))).mono ?_); rintro e w6 ⟨rfl, rfl⟩))
      exact ⟨hb5.block _ (by omega), hbV.trans (hb5.mono hbV.size)⟩
    · rw [hok] at ER1
      have ER := Lib.hid ER1
      have HM := Lib.hid (any_more (x := (x, ahead)) hp.out (by unfold badE; simp [hok]))
      clear ER1 hok hp
      gi_wp2_with (first
        | (refine ⟨trivial, ?_⟩; gi_at_call 74; (with_reducible refine (CallsIn.inRound _ (callsIn_wide.2 (ER.out _))).mono ?_); rintro e w5 ⟨rfl, hb5⟩)
        | (refine ⟨trivial, ?_⟩; gi_at_call 62; (with_reducible refine (CallsIn.inRound _ (callsIn_wide.2 (HY.out _))).mono ?_); rintro e w6 ⟨rfl, rfl⟩))
      exact ⟨fun k h1 h2 => hb5.block k (by omega), by have := hb5.size; omega, hb5.mono (by omega), Lib.hid (by simpa using HM.out), hbV.trans (hb5.mono hbV.size)⟩
end Go.Proofs.YtbbbeldbhlehnaaGreat
end
/-! data.Check: the last eras' ends; where the links lead. -/
section
set_option linter.unusedVariables false
set_option linter.unusedSimpArgs false
namespace Go.Proofs.YtbbbeldbhlehnaaGreat
open Go.RowKit Gno
theorem manyEras_no {d : Dt} (h : anyI (fun _ => manyEras) d.zs = false) {i : Nat} {z : Zn} (hz : d.zs[i]? = some z) : ∃ m, z.n = m + 1 ∧ m ≤ 3 := by
  cases hp : manyEras z
  · unfold manyEras at hp; simp at hp; exact ⟨z.n - 1, by omega, by omega⟩
  · rw [anyI_yes (p := fun _ => manyEras) hz hp] at h; cases h
set_option maxRecDepth 100000 in
set_option maxHeartbeats 8000000 in
theorem st13 {d : Dt} {w W : World} {a : Act} {K : Act → World → Prop} {v7 v8 v9 v10 : Value} (hD : DataAt w w.heap.size d) (hM : anyI (fun _ => manyEras) d.zs = false) (hE : dataE d = dE7 d)
    (hL : Live d w [(7, v7), (8, v8), (9, v9), (10, v10)] a W)
    (hK : ∀ a' W', anyI (fun _ => badEnd) d.zs = false → Live d w [(7, v7), (8, v8), (9, v9), (10, v10)] a' W' → Below W.heap.size W W' → K a' W') :
    (stmD 13).wp Tryz.prog (Exit.then K (QD d w)) a W := by
  obtain ⟨f, ds, rfl, hws⟩ := openS4 hL
  clear hL
  obtain ⟨c0, c1, c2⟩ := hws.cells
  have HY := yes_out 3
  have HN := no_out 3
  have HW := Lib.hid hws
  have HK := Lib.hid hK
  have HE := Lib.hid hE
  have HME := Lib.hid hM
  have hsz := hws.size
  have HD := Lib.hid ((hD.next hws.below).2.1)
  have hn : d.zn ≤ 9223372036854775807 := HD.out.2.1
  have HLE := Lib.hid HD.out.1
  clear hws hK hE hD hM
  conv => arg 2; whnf
  go_wp2
  go_loopw [156] (fun b wr => ∃ i : Nat, i ≤ d.zn ∧ b = .int .i64 i ∧ Hid (anyTo (atI (fun _ => badEnd) d.zs) i = false) ∧ Below W.heap.size W wr) (fun b _ => d.zn - (intOf b).toNat)
  case atStart => exact ⟨0, Nat.zero_le _, rfl, Lib.hid rfl, Below.refl _ _⟩
  case round =>
    obtain ⟨i, hi, rfl, hfi, hb⟩ := hrel
    by_cases hit : i < d.zn
    · obtain ⟨b, o, q, hA, hbB, hq, hq1, hq2⟩ := zones_get HD.out hit
      have HQ := Lib.hid hq
      obtain ⟨⟨e0, e1⟩, hes⟩ := hq2 _ hb
      obtain ⟨m, hm, hm3⟩ := manyEras_no HME.out hq
      obtain ⟨c, g, x, hA2, hcB, hx, _, hxx⟩ := eras_get hes (i := m) (by omega)
      obtain ⟨_, _, _, _, x4⟩ := hxx _ (Below.refl _ _)
      have HB : Hid (badEnd q = decide (x.til ≠ 1893456000)) := Lib.hid (by unfold badEnd; rw [hes.1, hm]; simp only [aheadOf, hx])
      rw [hm, hA2] at e1
      have HA := Lib.hid hA
      have HX0 := Lib.hid (hb.alloc hb.size (.cells #[.string q.name, .slice (some ⟨c, g, none⟩) (m + 1) q.cap] 41))
      have hcr : c < wr.heap.size := by have := hb.size; omega
      clear hq hq2 hA hm hA2 hx hxx hes
      rw [HA.out]
      by_cases h1 : x.til = 1893456000
      · have g1 : (x.til == 1893456000) = true := by simpa using h1
        have HM := Lib.hid (anyI_no (p := fun _ => badEnd) HQ.out hfi.out (by rw [HB.out]; simp [h1]))
        clear h1 hfi
        go_wp2_with (go_at_call 62; (with_reducible refine (HY.out _).mono ?_); rintro e w4 ⟨rfl, rfl⟩)
        go_roundw
        case rel => exact ⟨i + 1, by omega, by go_num, HM, HX0.out⟩
        case measure => simp [intOf]; omega
      · have g1 : (x.til == 1893456000) = false := by simpa using h1
        have HM : Hid (dataE d = 3) := Lib.hid (by rw [HE.out]; unfold dE7; rw [if_pos (anyI_yes HQ.out (by rw [HB.out]; simp [h1]))])
        clear h1 hfi
        go_wp2_with (go_at_call 62; (with_reducible refine (HN.out _).mono ?_); rintro e w4 ⟨rfl, rfl⟩)
        exact door_out HM.out (HW.out.step HX0.out) rfl
    · have HM := Lib.hid (anyI_end (by rw [HLE.out]; omega) (by rw [HLE.out]; exact hi) hfi.out)
      clear hfi
      go_wp2
      exact HK.out _ _ HM.out ⟨rfl, ⟨rfl, rfl, rfl, rfl, rfl, rfl, trivial⟩, HW.out.step hb⟩ hb
set_option maxRecDepth 100000 in
set_option maxHeartbeats 8000000 in
theorem st15 {d : Dt} {w W : World} {a : Act} {K : Act → World → Prop} {v7 v8 v9 v10 : Value} (hD : DataAt w w.heap.size d) (hE : dataE d = dE9 d) (h8 : Sl W d.zn (zNames d) v8) (h9 : Sl W d.ln (lNames d) v9) (h0 : Sl W d.ln (lTos d) v10)
    (hL : Live d w [(7, v7), (8, v8), (9, v9), (10, v10)] a W)
    (hK : ∀ a' W', anyI (fun _ => noTo d) (lTos d) = false → Live d w [(7, v7), (8, v8), (9, v9), (10, v10)] a' W' → Below W.heap.size W W' → K a' W') :
    (stmD 15).wp Tryz.prog (Exit.then K (QD d w)) a W := by
  obtain ⟨A8, c8, rfl, h8, _⟩ := h8
  obtain ⟨A9, c9, rfl, h9, _⟩ := h9
  obtain ⟨A0, c0, rfl, h0, _⟩ := h0
  obtain ⟨f, ds, rfl, hws⟩ := openS4 hL
  clear hL
  have HY := yes_out 4
  have HN := no_out 4
  have HW := Lib.hid hws
  have HK := Lib.hid hK
  have HE := Lib.hid hE
  have HR := Lib.hid h0
  have H8 : Hid (∀ s W', Below W.heap.size W W' → Calls Tryz.prog 76 #[.slice A8 d.zn c8, .string s] W' fun e w' => e = .returned (.bool (hasS (zNames d) s)) ∧ Below W'.heap.size W' w') := Lib.hid (fun s W' hb => containsStr_any A8 d.zn c8 _ s W' ((h8.below hb (Nat.le_refl _)).more hb.size))
  have H9 : Hid (∀ s W', Below W.heap.size W W' → Calls Tryz.prog 76 #[.slice A9 d.ln c9, .string s] W' fun e w' => e = .returned (.bool (hasS (lNames d) s)) ∧ Below W'.heap.size W' w') := Lib.hid (fun s W' hb => containsStr_any A9 d.ln c9 _ s W' ((h9.below hb (Nat.le_refl _)).more hb.size))
  have hn : d.ln ≤ 9223372036854775807 := HR.out.2.1
  have HLE := Lib.hid HR.out.1
  clear hws hK hE hD h8 h9 h0
  conv => arg 2; whnf
  go_wp2
  go_loopw [182] (fun b wr => ∃ i : Nat, i ≤ d.ln ∧ b = .int .i64 i ∧ Hid (anyTo (atI (fun _ => noTo d) (lTos d)) i = false) ∧ Below W.heap.size W wr) (fun b _ => d.ln - (intOf b).toNat)
  case atStart => exact ⟨0, Nat.zero_le _, rfl, Lib.hid rfl, Below.refl _ _⟩
  case round =>
    obtain ⟨i, hi, rfl, hfi, hb⟩ := hrel
    by_cases hit : i < d.ln
    · obtain ⟨b, o, s, hA, hbB, hq, hq2⟩ := HR.out.get hit
      have HQ := Lib.hid hq
      have e0 := hq2 _ hb
      have HA := Lib.hid hA
      have C8 := H8.out s wr hb
      clear hq hq2 hA
      rw [HA.out]
      cases h1 : hasS (zNames d) s
      · rw [h1] at C8
        have CA := Lib.hid C8
        have H1 := Lib.hid h1
        clear C8 h1
        cases h2 : hasS (lNames d) s
        · have H2 := Lib.hid h2
          have HM : Hid (dataE d = 4) := Lib.hid (by rw [HE.out]; unfold dE9; rw [if_pos (anyI_yes HQ.out (by unfold noTo; rw [H1.out, H2.out]; rfl))])
          clear h2 hfi
          go_wp2_with (first
            | (go_at_call 76; (with_reducible refine CA.out.mono ?_); rintro e w4 ⟨rfl, hb4⟩; have hb5 := hb.trans (hb4.mono hb.size); clear hb4)
            | (go_at_call 76; (with_reducible refine (H9.out _ _ hb5).mono ?_); rintro e w5 ⟨rfl, hb6⟩; rw [H2.out]; have hb7 := hb5.trans (hb6.mono hb5.size); clear hb6)
            | (go_at_call 62; (with_reducible refine (HN.out _).mono ?_); rintro e w6 ⟨rfl, rfl⟩))
          exact door_out HM.out (HW.out.step hb7) rfl
        · have H2 := Lib.hid h2
          have HM := Lib.hid (anyI_no (p := fun _ => noTo d) HQ.out hfi.out (by unfold noTo; rw [H1.out, H2.out]; rfl))
          clear h2 hfi
          go_wp2_with (first
            | (go_at_call 76; (with_reducible refine CA.out.mono ?_); rintro e w4 ⟨rfl, hb4⟩; have hb5 := hb.trans (hb4.mono hb.size); clear hb4)
            | (go_at_call 76; (with_reducible refine (H9.out _ _ hb5).mono ?_); rintro e w5 ⟨rfl, hb6⟩; rw [H2.out]; have hb7 := hb5.trans (hb6.mono hb5.size); clear hb6)
            | (go_at_call 62; (with_reducible refine (HY.out _).mono ?_); rintro e w6 ⟨rfl, rfl⟩))
          go_roundw
          case rel => exact ⟨i + 1, by omega, by go_num, HM, hb7⟩
          case measure => simp [intOf]; omega
      · rw [h1] at C8
        have CA := Lib.hid C8
        have HM := Lib.hid (anyI_no (p := fun _ => noTo d) HQ.out hfi.out (by unfold noTo; rw [h1]; rfl))
        clear C8 h1 hfi
        go_wp2_with (first
          | (go_at_call 76; (with_reducible refine CA.out.mono ?_); rintro e w4 ⟨rfl, hb4⟩; have hb5 := hb.trans (hb4.mono hb.size); clear hb4)
          | (go_at_call 62; (with_reducible refine (HY.out _).mono ?_); rintro e w6 ⟨rfl, rfl⟩))
        go_roundw
        case rel => exact ⟨i + 1, by omega, by go_num, HM, hb5⟩
        case measure => simp [intOf]; omega
    · have HM := Lib.hid (anyI_end (by rw [HLE.out]; omega) (by rw [HLE.out]; exact hi) hfi.out)
      clear hfi
      go_wp2
      exact HK.out _ _ HM.out ⟨rfl, ⟨rfl, rfl, rfl, rfl, rfl, rfl, trivial⟩, HW.out.step hb⟩ hb
set_option maxRecDepth 100000 in
set_option maxHeartbeats 8000000 in
theorem st16 {d : Dt} {w W : World} {a : Act} {K : Act → World → Prop} {v7 v8 v9 v10 : Value} (hD : DataAt w w.heap.size d) (hE : dataE d = dE10 d) (h9 : Sl W d.ln (lNames d) v9)
    (hL : Live d w [(7, v7), (8, v8), (9, v9), (10, v10)] a W)
    (hK : ∀ a' W', anyI (fun _ => noLead d) (lNames d) = false → Live d w [(7, v7), (8, v8), (9, v9), (10, v10)] a' W' → Below W.heap.size W W' → K a' W') :
    (stmD 16).wp Tryz.prog (Exit.then K (QD d w)) a W := by
  obtain ⟨A9, c9, rfl, h9, _⟩ := h9
  obtain ⟨f, ds, rfl, hws⟩ := openS4 hL
  clear hL
  have HY := yes_out 7
  have HN := no_out 7
  have HW := Lib.hid hws
  have HK := Lib.hid hK
  have HE := Lib.hid hE
  have HR := Lib.hid h9
  have hn : d.ln ≤ 9223372036854775807 := HR.out.2.1
  have HLE := Lib.hid HR.out.1
  have HL : Hid (∀ s W', Below W.heap.size W W' → Calls Tryz.prog 16 #[.agg #[.slice d.sA d.sn d.sc, .slice d.zA d.zn d.zc, .slice d.lA d.ln d.lc], .string s] W' fun e w' => e = .returned (.int .i64 (leadN d s)) ∧ Below W'.heap.size W' w') := Lib.hid (fun s W' hb => lead_any d s W' (hD.next (HW.out.step hb).below))
  clear hws hK hE hD h9
  conv => arg 2; whnf
  go_wp2
  go_loopw [198] (fun b wr => ∃ i : Nat, i ≤ d.ln ∧ b = .int .i64 i ∧ Hid (anyTo (atI (fun _ => noLead d) (lNames d)) i = false) ∧ Below W.heap.size W wr) (fun b _ => d.ln - (intOf b).toNat)
  case atStart => exact ⟨0, Nat.zero_le _, rfl, Lib.hid rfl, Below.refl _ _⟩
  case round =>
    obtain ⟨i, hi, rfl, hfi, hb⟩ := hrel
    by_cases hit : i < d.ln
    · obtain ⟨b, o, s, hA, hbB, hq, hq2⟩ := HR.out.get hit
      have HQ := Lib.hid hq
      have e0 := hq2 _ hb
      have HA := Lib.hid hA
      obtain ⟨m0, m1, m2⟩ := (HW.out.step hb).cells
      have C := Lib.hid (HL.out s wr hb)
      clear hq hq2 hA
      rw [HA.out]
      by_cases h1 : 0 ≤ leadN d s
      · have g1 : decide (0 ≤ leadN d s) = true := by simpa using h1
        have HM := Lib.hid (anyI_no (p := fun _ => noLead d) HQ.out hfi.out (by unfold noLead; simp; exact h1))
        clear h1 hfi
        go_wp2_with (first
          | (go_at_call 16; (with_reducible refine C.out.mono ?_); rintro e w4 ⟨rfl, hb4⟩; have hb5 := hb.trans (hb4.mono hb.size); clear hb4)
          | (go_at_call 62; (with_reducible refine (HY.out _).mono ?_); rintro e w6 ⟨rfl, rfl⟩))
        go_roundw
        case rel => exact ⟨i + 1, by omega, by go_num, HM, hb5⟩
        case measure => simp [intOf]; omega
      · have g1 : decide (0 ≤ leadN d s) = false := by simpa using h1
        have HM : Hid (dataE d = 7) := Lib.hid (by rw [HE.out]; unfold dE10; rw [if_pos (anyI_yes HQ.out (by unfold noLead; simp; omega))])
        clear h1 hfi
        go_wp2_with (first
          | (go_at_call 16; (with_reducible refine C.out.mono ?_); rintro e w4 ⟨rfl, hb4⟩; have hb5 := hb.trans (hb4.mono hb.size); clear hb4)
          | (go_at_call 62; (with_reducible refine (HN.out _).mono ?_); rintro e w6 ⟨rfl, rfl⟩))
        exact door_out HM.out (HW.out.step hb5) rfl
    · have HM := Lib.hid (anyI_end (by rw [HLE.out]; omega) (by rw [HLE.out]; exact hi) hfi.out)
      clear hfi
      go_wp2
      exact HK.out _ _ HM.out ⟨rfl, ⟨rfl, rfl, rfl, rfl, rfl, rfl, trivial⟩, HW.out.step hb⟩ hb
end Go.Proofs.YtbbbeldbhlehnaaGreat
end
/-! data.Check: each format (the second loop over data.eras). -/
section
set_option linter.unusedVariables false
set_option linter.unusedSimpArgs false
namespace Go.Proofs.YtbbbeldbhlehnaaGreat
open Go.RowKit Gno Go.Shelf
attribute [local go_sem] Oper.semAt_some
theorem mem_aheads : ∀ {es : List Er} {a : Int} {x : Er × Int}, x ∈ aheads a es → x.1 ∈ es
  | [], _, _, h => by simp [aheads] at h
  | y :: t, a, x, h => by
    rw [aheads] at h
    rcases List.mem_cons.1 h with rfl | h
    · simp
    · exact List.mem_cons_of_mem _ (mem_aheads h)
theorem erasL_fmt {w : World} {B : Nat} {A : Option Addr} {n : Nat} {zs : List Zn} (hz : ZonesAt w B A n zs) : ∀ x ∈ erasL zs, x.1.fmt.size ≤ fmtMax := by
  intro x hx
  obtain ⟨z, hzm, hxm⟩ := List.mem_flatMap.1 hx
  obtain ⟨j, hj⟩ := List.getElem?_of_mem hzm
  have hjl : j < n := by have := (List.getElem?_eq_some_iff.1 hj).1; rw [hz.1] at this; exact this
  obtain ⟨_, _, q, _, _, hq, _, hes⟩ := zones_get hz hjl
  rw [hj] at hq; injection hq with hq; subst hq
  obtain ⟨k, hk⟩ := List.getElem?_of_mem (mem_aheads hxm)
  have he := (hes w (Below.refl _ _)).2
  have hkl : k < z.n := by have := (List.getElem?_eq_some_iff.1 hk).1; rw [he.1] at this; exact this
  obtain ⟨_, _, y, _, _, hy, hy1, _⟩ := eras_get he hkl
  rw [hk] at hy; injection hy with hy; rw [hy]; exact hy1
set_option maxRecDepth 100000 in
set_option maxHeartbeats 8000000 in
theorem st14 {d : Dt} {w W : World} {a : Act} {K : Act → World → Prop} {v7 v8 v9 v10 : Value} (hD : DataAt w w.heap.size d) (hMX : MaxAt w w.heap.size) (hE : dataE d = dE8 d)
    (hL : Live d w [(7, v7), (8, v8), (9, v9), (10, v10)] a W)
    (hK : ∀ a' W', (erasL d.zs).any badF = false → Live d w [(7, v7), (8, v8), (9, v9), (10, v10)] a' W' → Below W.heap.size W W' → K a' W') :
    Code.wpV Tryz.prog (stmD 14) (Exit.then K (QD d w)) a W := by
  obtain ⟨f, ds, rfl, hws⟩ := openS4 hL
  clear hL
  obtain ⟨c0, c1, c2⟩ := hws.cells
  have HW := Lib.hid hws
  have HK := Lib.hid hK
  have HE := Lib.hid hE
  have hsz := hws.size
  have HY := yes_out 1
  have HN := no_out 1
  have HSZ := Lib.hid (erasL_fmt hD.2.1)
  have HMX := Lib.hid hMX
  have HD := Lib.hid ((hD.next hws.below).2.1)
  have CE : Hid (∀ w, Calls Tryz.prog 73 #[.agg #[.slice d.sA d.sn d.sc, .slice d.zA d.zn d.zc, .slice d.lA d.ln d.lc]] w fun e w' => e = .returned (.func (.func 101) #[] #[.pointer (some ⟨w.heap.size, 0, none⟩)]) ∧
      w' = w.alloc (.cells #[.slice d.sA d.sn d.sc, .slice d.zA d.zn d.zc, .slice d.lA d.ln d.lc] 26)) := Lib.hid (fun w => eras_any d w)
  clear hws hK hE hD hMX
  conv => arg 2; whnf
  refine wpV_plain fun K1 hK1 => ?_
  have HK1 := Lib.hid hK1
  clear hK1
  go_wp2_with (go_at_call 73; (with_reducible refine (CE.out _).mono ?_); rintro e w4 ⟨rfl, rfl⟩)
  refine HK1.out _ _ ?_
  clear HK1 CE
  have hb1 : Below W.heap.size W (W.alloc (.cells #[.slice d.sA d.sn d.sc, .slice d.zA d.zn d.zc, .slice d.lA d.ln d.lc] 26)) := (Below.refl _ _).alloc (Nat.le_refl _) _
  obtain ⟨W1, hW1⟩ : ∃ W1, W1 = W.alloc (.cells #[.slice d.sA d.sn d.sc, .slice d.zA d.zn d.zc, .slice d.lA d.ln d.lc] 26) := ⟨_, rfl⟩
  have hz1 : W1.heap.size = W.heap.size + 1 := by rw [hW1]; simp
  have hc1 : W1.cell? ⟨W.heap.size, 1, none⟩ = some (.slice d.zA d.zn d.zc) := by rw [hW1]; simp
  rw [← hW1] at hb1 ⊢
  clear hW1
  refine wpV_block ?_
  refine wpV_range (gf := 101) (lb := #[.pointer (some ⟨W.heap.size, 0, none⟩)]) (encs := encEr) (xs := erasL d.zs) (n0 := W.heap.size) rfl (enters_of Tryz.func101 (by kernel_rfl) rfl) (fun x => rfl)
    (eras_seq d W.heap.size W.heap.size W1 (SlAt.below keeps_zn HD.out hb1 (Nat.le_refl _)) hb1.size (by omega) hc1) hb1.size
    (fun pre V => Hid (pre.any badF = false) ∧ Below W.heap.size W V) (fun ch V => Hid (ch = thrown 1 ∧ dataE d = 1) ∧ Below W.heap.size W V)
    (fun pre A B h hb => ⟨h.1, h.2.trans (hb.mono hb1.size)⟩) ⟨Lib.hid rfl, hb1⟩ ?round ?done ?panic
  case done =>
    rintro W' ⟨hp, hb⟩ hk hz
    simp only [Exit.inBlock, Exit.then]
    exact HK.out _ _ hp.out ⟨rfl, ⟨rfl, rfl, rfl, rfl, rfl, rfl, trivial⟩, HW.out.mark hb (by omega) hk⟩ hb
  case panic =>
    rintro ch W' ⟨hp, hb⟩ hk
    obtain ⟨rfl, hF⟩ := hp.out
    simp only [Exit.inBlock, Exit.then]
    exact door_out hF (HW.out.mark hb (by omega) hk) rfl
  case round =>
    rintro pre ⟨x, ahead⟩ rest V hx ⟨hp, hb⟩ hz
    have HX := Lib.hid hx
    have hzV : W.heap.size + 3 ≤ V.heap.size := by omega
    clear hx
    dsimp only [encEr, Er.val]
    gi_wp2
    refine ⟨(Below.refl _ _).alloc (Nat.le_refl _) _, ?_⟩
    intro V2 hb2 hk2 hs2
    have hbV : Below W.heap.size W V2 := (hb.alloc hb.size _).trans (hb2.mono (by omega))
    have hcell : ∀ i, V2.cell? ⟨V.heap.size, i, none⟩ = (V.alloc (.cells #[.int .i64 x.std, .int .i64 x.set, .int .i64 x.save, .string x.fmt, .int .i64 x.til] 83)).cell? ⟨V.heap.size, i, none⟩ := fun i =>
      World.cell?_of_block (w := V.alloc (.cells #[.int .i64 x.std, .int .i64 x.set, .int .i64 x.save, .string x.fmt, .int .i64 x.til] 83)) (a := ⟨V.heap.size, i, none⟩) (hk2 V.heap.size (by omega))
    have g0 : V2.cell? ⟨V.heap.size, 0, none⟩ = some (.int .i64 x.std) := by rw [hcell]; simp
    have g1 : V2.cell? ⟨V.heap.size, 1, none⟩ = some (.int .i64 x.set) := by rw [hcell]; simp
    have g2 : V2.cell? ⟨V.heap.size, 2, none⟩ = some (.int .i64 x.save) := by rw [hcell]; simp
    have g3 : V2.cell? ⟨V.heap.size, 3, none⟩ = some (.string x.fmt) := by rw [hcell]; simp
    have g4 : V2.cell? ⟨V.heap.size, 4, none⟩ = some (.int .i64 x.til) := by rw [hcell]; simp
    have hz2 : V2.heap.size = V.heap.size + 1 := by rw [hs2]; simp
    have ER1 : Hid (∀ W', Below W.heap.size W W' → Calls Tryz.prog 75 #[.string x.fmt] W' fun e w' => e = .returned (.bool (fmtOk x.fmt)) ∧ Below W'.heap.size W' w') := Lib.hid (fun W' hb' => format_any x.fmt W' (HSZ.out (x, ahead) (by rw [HX.out]; simp)) (HMX.out.below (HW.out.step hb').below (HW.out.step hb').below.size))
    have ER1 := ER1.out V2 hbV
    clear hcell hb2 hk2 hs2 hb
    cases hok : fmtOk x.fmt
    · rw [hok] at ER1
      have ER := Lib.hid ER1
      have HM : Hid (dataE d = 1) := Lib.hid (by rw [HE.out]; unfold dE8; rw [if_pos (any_mid HX.out (by unfold badF; simp [hok]))])
      clear ER1 hok hp
      gi_wp2_with (first
        | (refine ⟨trivial, ?_⟩; gi_at_call 75; (with_reducible refine (CallsIn.inRound _ (callsIn_wide.2 ER.out)).mono ?_); rintro e w5 ⟨rfl, hb5⟩)
        | (refine ⟨trivial, ?_⟩; gi_at_call 62; (with_reducible refine (CallsIn.inRound _ (callsIn_wide.2 (HN.out _))).mono ?_); rintro e w6 ⟨rfl, rfl⟩))
      exact ⟨hb5.block _ (by omega), hbV.trans (hb5.mono hbV.size)⟩
    · rw [hok] at ER1
      have ER := Lib.hid ER1
      have HM := Lib.hid (any_more (x := (x, ahead)) hp.out (by unfold badF; simp [hok]))
      clear ER1 hok hp
      gi_wp2_with (first
        | (refine ⟨trivial, ?_⟩; gi_at_call 75; (with_reducible refine (CallsIn.inRound _ (callsIn_wide.2 ER.out)).mono ?_); rintro e w5 ⟨rfl, hb5⟩)
        | (refine ⟨trivial, ?_⟩; gi_at_call 62; (with_reducible refine (CallsIn.inRound _ (callsIn_wide.2 (HY.out _))).mono ?_); rintro e w6 ⟨rfl, rfl⟩))
      exact ⟨fun k h1 h2 => hb5.block k (by omega), by have := hb5.size; omega, hb5.mono (by omega), Lib.hid (by simpa using HM.out), hbV.trans (hb5.mono hbV.size)⟩
end Go.Proofs.YtbbbeldbhlehnaaGreat
end
