/- Parts of a proof, laid together. -/
import Derived.OneCell
import Derived.Test.YtbbbeldbhlehnaaGreatDoorMUTrB219
set_option linter.unusedSimpArgs false
set_option linter.unusedVariables false
section
set_option maxRecDepth 100000
namespace Go.Proofs.YtbbbeldbhlehnaaGreatDoor
open Go.RowKit Gno Go.Shelf
attribute [local go_sem] Oper.semAt_some
structure FindI (h F : Nat) (A : Option Addr) (n cap : Nat) (s : ByteArray) (w : World) (pre : List (Nat × Int)) (V : World) : Prop where
 below : Below w.heap.size w V
 box : V.cell? ⟨h, 0, none⟩ = some (.string s)
 found : V.heap[F]? = some (.cells #[.int .i64 (fndW s.size pre (-1))] 3 (0, 0))
 boxes : BoxesAt (F + 1) (F + 2) A n cap s V
end Go.Proofs.YtbbbeldbhlehnaaGreatDoor
end
section
set_option maxRecDepth 100000
namespace Go.Proofs.YtbbbeldbhlehnaaGreatDoor
open Go.RowKit Gno Go.Shelf
attribute [local go_sem] Oper.semAt_some
structure LongI (F : Nat) (A : Option Addr) (n cap : Nat) (s : ByteArray) (w : World) (pre : List (Nat × Int)) (V : World) : Prop where
 below : Below w.heap.size w V
 best : V.heap[F]? = some (.cells #[.int .i64 (bstW pre (-1, 0)).1] 3 (0, 0))
 size : V.heap[F + 1]? = some (.cells #[.int .i64 (bstW pre (-1, 0)).2] 3 (0, 0))
 boxes : BoxesAt (F + 2) (F + 3) A n cap s V
set_option maxHeartbeats 8000000 in
theorem longT_ok (t : List Nd) (A : Option Addr) (n cap : Nat) (s : ByteArray) (m : Nat) (hs : m ≤ 9223372036854775807) (w : World) (hT : NodesAt w w.heap.size A n t) (hok : trieOk t = true) (hm : Far t (bs s) m) :
 Calls Tryz.prog 60 #[.slice A n cap, .string s] w fun e w' => e = .returned (.tuple #[.int .i64 (lgK t (bs s) s.size), .int .i64 (lgN t (bs s) s.size), .int .i64 0]) ∧ Below w.heap.size w w' := by
 refine calls_of_wpU Tryz.func60 rfl ?_
 simp only [Tryz.ntmps60, List.size_toArray, List.length_cons, List.length_nil, Nat.reduceAdd, Nat.reduceSub, Array.replicate_succ, Array.replicate_zero, List.push_toArray, List.append_toArray, List.nil_append, List.cons_append]
 conv => arg 2; whnf
 have C : Hid (∀ W, Below w.heap.size w W → Calls Tryz.prog 137 #[.slice A n cap] W fun e w' => e = .returned (.int .i64 0) ∧ Below W.heap.size W w') := Lib.hid fun W hW => by
  have := trieCk_any t A n cap W (NodesAt.next hT hW)
  rwa [trieE_yes hok] at this
 have CW : Hid (∀ w, Calls Tryz.prog 138 #[.slice A n cap, .string s] w fun e w' => e = .returned (.func (.func 188) #[] #[.pointer (some ⟨w.heap.size, 0, none⟩), .pointer (some ⟨w.heap.size + 1, 0, none⟩)]) ∧
  w' = (w.alloc (.cells #[.slice A n cap] 65)).alloc (.cells #[.string s] 9)) := Lib.hid fun w => walk_any A n cap s w
 have SQ : Hid (∀ bx by' W, Below w.heap.size w W → SeqP2 Tryz.prog 188 #[.pointer (some ⟨bx, 0, none⟩), .pointer (some ⟨by', 0, none⟩)] encW (seenW t (bs s) m) w.heap.size (BoxesAt bx by' A n cap s) W) := Lib.hid fun bx by' W hW => walk_seq t A n cap s m w.heap.size bx by' hs W (SlAt.below keeps_nd hT hW (Nat.le_refl _)) hok hm hW.size
 have HF : Hid (bstW (seenW t (bs s) m) (-1, 0) = (lgK t (bs s) s.size, lgN t (bs s) s.size)) := Lib.hid (by have := bstW_far hm; rwa [bs_len] at this)
 obtain ⟨LK, hLK⟩ : ∃ LK, LK = lgK t (bs s) s.size := ⟨_, rfl⟩
 obtain ⟨LN, hLN⟩ : ∃ LN, LN = lgN t (bs s) s.size := ⟨_, rfl⟩
 rw [← hLK, ← hLN] at HF
 rw [← hLK, ← hLN]
 clear hT hok hm hLK hLN
 refine wpV_plain fun K hK => ?_
 have HK := Lib.hid hK
 clear hK
 go_wp2
 refine HK.out _ _ ?_
 clear HK
 refine wpV_plain fun K hK => ?_
 have HK := Lib.hid hK
 clear hK
 go_wp2_with (go_at_call 137; (with_reducible refine (C.out _ (Below.refl _ _)).mono ?_); rintro e w2 ⟨rfl, hb2⟩)
 refine HK.out _ _ ?_
 clear HK C
 refine wpV_plain fun K hK => ?_
 have HK := Lib.hid hK
 clear hK
 go_wp2
 refine HK.out _ _ ?_
 clear HK
 obtain ⟨F, hF⟩ : ∃ F, F = w2.heap.size := ⟨_, rfl⟩
 obtain ⟨v2, hv2⟩ : ∃ v2, v2 = (w2.alloc (.cells #[.int .i64 (-1)] 3)).alloc (.cells #[.int .i64 0] 3) := ⟨_, rfl⟩
 have hbv : Below w.heap.size w v2 := by rw [hv2]; exact (hb2.alloc hb2.size _).alloc (by have := hb2.size; simp; omega) _
 have hfv : v2.heap[F]? = some (.cells #[.int .i64 (-1)] 3 (0, 0)) := by
  rw [hv2, hF, Below.heap_alloc _ _ _ (by simp)]; exact World.alloc_heap_new w2 _
 have hgv : v2.heap[F + 1]? = some (.cells #[.int .i64 0] 3 (0, 0)) := by
  rw [hv2, hF]; have := World.alloc_heap_new (w2.alloc (.cells #[.int .i64 (-1)] 3)) (.cells #[.int .i64 0] 3); rwa [World.size_alloc] at this
 have hzv : v2.heap.size = F + 2 := by rw [hv2, hF]; simp
 have hzF : w.heap.size ≤ F := by rw [hF]; exact hb2.size
 rw [← hF]
 rw [← hv2]
 clear hb2 hv2 hF
 refine wpV_then fun K hK => ?_
 have HK := Lib.hid hK
 clear hK
 refine wpV_plain fun K1 hK1 => ?_
 have HK1 := Lib.hid hK1
 clear hK1
 go_wp2_with (go_at_call 138; (with_reducible refine (CW.out _).mono ?_); rintro e w4 ⟨rfl, rfl⟩)
 refine HK1.out _ _ ?_
 clear HK1 CW
 obtain ⟨W1, hW1⟩ : ∃ W1, W1 = (v2.alloc (.cells #[.slice A n cap] 65)).alloc (.cells #[.string s] 9) := ⟨_, rfl⟩
 have hz1 : W1.heap.size = F + 4 := by rw [hW1]; simp [hzv]
 have hb1 : Below v2.heap.size v2 W1 := by rw [hW1]; exact ((Below.refl _ _).alloc (Nat.le_refl _) _).alloc (by simp) _
 have hx1 : W1.cell? ⟨F + 2, 0, none⟩ = some (.slice A n cap) := by
  rw [hW1, World.cell?_alloc_past _ _ _ (by simp [hzv]), World.cell?_alloc_at _ _ _ _ hzv.symm]; rfl
 have hy1 : W1.cell? ⟨F + 3, 0, none⟩ = some (.string s) := by
  rw [hW1, World.cell?_alloc_at _ _ _ _ (by simp [hzv])]; rfl
 have hbW : Below w.heap.size w W1 := hbv.trans (hb1.mono (by omega))
 have I0 : LongI F A n cap s w [] W1 := ⟨hbW, (hb1.block F (by omega)).trans hfv, (hb1.block (F + 1) (by omega)).trans hgv, hx1, hy1⟩
 rw [← hW1]
 clear hW1 hbv hfv hgv hb1 hx1 hy1
 refine wpV_block ?_
 refine wpV_range2 (gf := 188) (lb := #[.pointer (some ⟨F + 2, 0, none⟩), .pointer (some ⟨F + 2 + 1, 0, none⟩)]) (encs := encW) (xs := seenW t (bs s) m) (n0 := w.heap.size) rfl (enters_of Tryz.func188 (by kernel_rfl) rfl) (fun x => rfl)
  (BoxesAt (F + 2) (F + 3) A n cap s) (SQ.out (F + 2) (F + 3) W1 hbW) hbW.size
  (fun pre V => Hid (LongI F A n cap s w pre V)) (fun pre V h => h.out.boxes) (fun ch V => False)
  (fun pre A' B h hb => Lib.hid ⟨h.out.below.trans (hb.mono (by omega)), (hb.block F (by omega)).trans h.out.best, (hb.block (F + 1) (by omega)).trans h.out.size, (hb.cell (p := ⟨F + 2, 0, none⟩) (by show F + 2 < _; omega)).trans h.out.boxes.1, (hb.cell (p := ⟨F + 3, 0, none⟩) (by show F + 3 < _; omega)).trans h.out.boxes.2⟩) (Lib.hid I0) ?round ?done ?panic
 case panic => rintro ch W' h; exact h.elim
 case done =>
  rintro W' hI hk hz
  simp only [Exit.inBlock, Exit.then]
  refine HK.out _ _ ?_
  have hI := hI.out
  have hbF := hI.below
  have hcF := cell_of_one hI.best
  have hcG := cell_of_one hI.size
  rw [HF.out] at hcF hcG
  clear HK I0 hI HF
  refine wpV_of_wp ?_
  go_wp2
  go_quiet (fail)
  go_wp2
  refine door_mark (by simp) (by rw [← hz1]; exact hk) ?_
  exact (show ∃ v, (results _ _).run Tryz.prog _ = .ok v _ ∧ (_ ∧ _) from ⟨.tuple #[.int .i64 LK, .int .i64 LN, .int .i64 0], by simp [results, Tryz.results60, go_sem], rfl, (below_drewT hbF _).trans (below_putObj.mono (by have := hbW.size; omega))⟩)
 case round =>
  rintro pre ⟨i, x⟩ rest V hx hI hz
  have HI := Lib.hid hI.out
  clear hx hI I0
  dsimp only [encW]
  gi_wp2
  refine ⟨Below.refl _ _, ?_⟩
  intro V2 hb2 hk2 hs2
  have hf2 := (hb2.block F (by omega)).trans HI.out.best
  have hg2 := (hb2.block (F + 1) (by omega)).trans HI.out.size
  have hI2 : LongI F A n cap s w pre V2 := ⟨HI.out.below.trans (hb2.mono (by omega)), hf2, hg2, (hb2.cell (p := ⟨F + 2, 0, none⟩) (by show F + 2 < _; omega)).trans HI.out.boxes.1, (hb2.cell (p := ⟨F + 3, 0, none⟩) (by show F + 3 < _; omega)).trans HI.out.boxes.2⟩
  have HI2 := Lib.hid hI2
  clear hb2 hk2 hs2 hI2
  have cF := cell_of_one hf2
  have fF := free_of_one hf2
  have cG := cell_of_one hg2
  have fG := free_of_one hg2
  clear hf2 hg2
  by_cases hi : 0 ≤ x
  ·have hsF : Below F V2 (V2.setCell ⟨F, 0, none⟩ (.int .i64 x)) := (Below.refl F V2).setCell (p := ⟨F, 0, none⟩) (Nat.le_refl F) _
   have hs2 : Below F V2 ((V2.setCell ⟨F, 0, none⟩ (.int .i64 x)).setCell ⟨F + 1, 0, none⟩ (.int .i64 i)) := hsF.setCell (p := ⟨F + 1, 0, none⟩) (by show F ≤ F + 1; omega) _
   have hoF : ∀ k, k ≠ F → k ≠ F + 1 → ((V2.setCell ⟨F, 0, none⟩ (.int .i64 x)).setCell ⟨F + 1, 0, none⟩ (.int .i64 i)).heap[k]? = V2.heap[k]? := fun k hk hk2 => (Below.heap_setCell _ _ _ _ hk2).trans (Below.heap_setCell _ _ _ _ hk)
   have hF1 : ((V2.setCell ⟨F, 0, none⟩ (.int .i64 x)).setCell ⟨F + 1, 0, none⟩ (.int .i64 i)).heap[F]? = some (.cells #[.int .i64 x] 3 (0, 0)) := (Below.heap_setCell _ _ _ _ (by show F ≠ F + 1; omega)).trans (one_setCell HI2.out.best)
   have hF2 : ((V2.setCell ⟨F, 0, none⟩ (.int .i64 x)).setCell ⟨F + 1, 0, none⟩ (.int .i64 i)).heap[F + 1]? = some (.cells #[.int .i64 i] 3 (0, 0)) := one_setCell ((Below.heap_setCell _ _ _ _ (by show F + 1 ≠ F; omega)).trans HI2.out.size)
   have HS := Lib.hid hs2
   have HO := Lib.hid hoF
   have HA := Lib.hid hF1
   have HB := Lib.hid hF2
   clear hsF hoF hF1 hF2 hs2
   gi_wp2
   refine ⟨fun k h1 h2 => HO.out k (by omega) (by omega), HS.out.mono (by omega), Lib.hid ⟨HI2.out.below.trans (HS.out.mono (by omega)), ?_, ?_, ?_, ?_⟩⟩
   ·rw [bstW_snoc, if_pos hi]; exact HA.out
   ·rw [bstW_snoc, if_pos hi]; exact HB.out
   ·rw [World.cell?_of_block (HO.out (F + 2) (by omega) (by omega))]; exact HI2.out.boxes.1
   ·rw [World.cell?_of_block (HO.out (F + 3) (by omega) (by omega))]; exact HI2.out.boxes.2
  ·gi_wp2
   exact ⟨Below.refl _ _, Lib.hid ⟨HI2.out.below, by rw [bstW_snoc, if_neg (show ¬ 0 ≤ x by omega)]; exact HI2.out.best, by rw [bstW_snoc, if_neg (show ¬ 0 ≤ x by omega)]; exact HI2.out.size, HI2.out.boxes⟩⟩
noncomputable def findW (t : List Nd) (s : ByteArray) : Int := if trieOk t = true then findK t (bs s) else 0
noncomputable def longKW (t : List Nd) (s : ByteArray) : Int := if trieOk t = true then lgK t (bs s) s.size else 0
noncomputable def longNW (t : List Nd) (s : ByteArray) : Int := if trieOk t = true then lgN t (bs s) s.size else 0
end Go.Proofs.YtbbbeldbhlehnaaGreatDoor
end
