/- Tries: Find of a right one. -/
import Derived.Test.YtggepbkhhnhnkaaTrI
import Derived.OneCell
set_option linter.unusedVariables false
set_option linter.unusedSimpArgs false
namespace Go.Proofs.Ytggepbkhhnhnkaa
open Go.RowKit Gno Go.Shelf
attribute [local go_sem] Oper.semAt_some
/-- between two rounds of Find's loop: what is found so far, and what stands as it stood. -/
structure FindI (h F : Nat) (A : Option Addr) (n cap : Nat) (s : ByteArray) (w : World) (pre : List (Nat × Int)) (V : World) : Prop where
  below : Below w.heap.size w V
  box : V.cell? ⟨h, 0, none⟩ = some (.string s)
  found : V.heap[F]? = some (.cells #[.int .i64 (fndW s.size pre (-1))] 3 (0, 0))
  boxes : BoxesAt (F + 1) (F + 2) A n cap s V
set_option maxHeartbeats 8000000 in
theorem findT_ok (t : List Nd) (A : Option Addr) (n cap : Nat) (s : ByteArray) (m : Nat) (hs : m ≤ 9223372036854775807) (w : World) (hT : NodesAt w w.heap.size A n t) (hok : trieOk t = true) (hm : Far t (bs s) m) :
    Calls Try.prog 15 #[.slice A n cap, .string s] w fun e w' => e = .returned (.tuple #[.int .i64 (findK t (bs s)), .int .i64 0]) ∧ Below w.heap.size w w' := by
  refine calls_of_wpU Try.func15 rfl ?_
  simp only [Try.ntmps15, List.size_toArray, List.length_cons, List.length_nil, Nat.reduceAdd, Nat.reduceSub, Array.replicate_succ, Array.replicate_zero, List.push_toArray, List.append_toArray, List.nil_append, List.cons_append]
  conv => arg 2; whnf
  have hb0 : Below w.heap.size w (w.alloc (.cells #[.string s] 9)) := (Below.refl _ _).alloc (Nat.le_refl _) _
  have C : Hid (∀ W, Below w.heap.size w W → Calls Try.prog 12 #[.slice A n cap] W fun e w' => e = .returned (.int .i64 0) ∧ Below W.heap.size W w') := Lib.hid fun W hW => by
    have := check_any t A n cap W (NodesAt.next hT hW)
    rwa [trieE_yes hok] at this
  have CW : Hid (∀ w, Calls Try.prog 26 #[.slice A n cap, .string s] w fun e w' => e = .returned (.func (.func 33) #[] #[.pointer (some ⟨w.heap.size, 0, none⟩), .pointer (some ⟨w.heap.size + 1, 0, none⟩)]) ∧
      w' = (w.alloc (.cells #[.slice A n cap] 23)).alloc (.cells #[.string s] 9)) := Lib.hid fun w => walk_any A n cap s w
  have SQ : Hid (∀ bx by' W, Below w.heap.size w W → SeqP2 Try.prog 33 #[.pointer (some ⟨bx, 0, none⟩), .pointer (some ⟨by', 0, none⟩)] encW (seenW t (bs s) m) w.heap.size (BoxesAt bx by' A n cap s) W) := Lib.hid fun bx by' W hW => walk_seq t A n cap s m w.heap.size bx by' hs W (SlAt.below keeps_nd hT hW (Nat.le_refl _)) hok hm hW.size
  have HF : Hid (fndW s.size (seenW t (bs s) m) (-1) = findK t (bs s)) := Lib.hid (by have := fndW_far hm; rwa [bs_len] at this)
  clear hT hok hm
  refine wpV_plain fun K hK => ?_
  have HK := Lib.hid hK
  clear hK
  go_wp2
  refine HK.out _ _ ?_
  clear HK
  refine wpV_plain fun K hK => ?_
  have HK := Lib.hid hK
  clear hK
  go_wp2_with (go_at_call 12; (with_reducible refine (C.out _ hb0).mono ?_); rintro e w2 ⟨rfl, hb2⟩)
  refine HK.out _ _ ?_
  clear HK C
  have hc2 : w2.cell? ⟨w.heap.size, 0, none⟩ = some (.string s) := (hb2.cell (p := ⟨w.heap.size, 0, none⟩) (by simp)).trans (by rw [World.cell?_alloc_at _ _ _ _ rfl]; rfl)
  have hb3 : Below w.heap.size w w2 := hb0.trans (hb2.mono hb0.size)
  have hz2 : w.heap.size + 1 ≤ w2.heap.size := by have := hb2.size; simpa using this
  clear hb0 hb2
  refine wpV_plain fun K hK => ?_
  have HK := Lib.hid hK
  clear hK
  go_wp2
  refine HK.out _ _ ?_
  clear HK
  obtain ⟨F, hF⟩ : ∃ F, F = w2.heap.size := ⟨_, rfl⟩
  obtain ⟨v2, hv2⟩ : ∃ v2, v2 = w2.alloc (.cells #[.int .i64 (-1)] 3) := ⟨_, rfl⟩
  have hbv : Below w.heap.size w v2 := by rw [hv2]; exact hb3.alloc (by omega) _
  have hcv : v2.cell? ⟨w.heap.size, 0, none⟩ = some (.string s) := by rw [hv2, World.cell?_alloc_past _ _ _ (by omega)]; exact hc2
  have hfv : v2.heap[F]? = some (.cells #[.int .i64 (-1)] 3 (0, 0)) := by rw [hv2, hF]; exact World.alloc_heap_new w2 _
  have hzv : v2.heap.size = F + 1 := by rw [hv2, hF]; simp
  rw [← hF]
  rw [← hF] at hz2
  rw [← hv2]
  clear hc2 hb3 hv2 hF
  refine wpV_then fun K hK => ?_
  have HK := Lib.hid hK
  clear hK
  refine wpV_plain fun K1 hK1 => ?_
  have HK1 := Lib.hid hK1
  clear hK1
  go_wp2_with (go_at_call 26; (with_reducible refine (CW.out _).mono ?_); rintro e w4 ⟨rfl, rfl⟩)
  refine HK1.out _ _ ?_
  clear HK1 CW
  obtain ⟨W1, hW1⟩ : ∃ W1, W1 = (v2.alloc (.cells #[.slice A n cap] 23)).alloc (.cells #[.string s] 9) := ⟨_, rfl⟩
  have hz1 : W1.heap.size = F + 3 := by rw [hW1]; simp [hzv]
  have hb1 : Below v2.heap.size v2 W1 := by rw [hW1]; exact ((Below.refl _ _).alloc (Nat.le_refl _) _).alloc (by simp) _
  have hx1 : W1.cell? ⟨F + 1, 0, none⟩ = some (.slice A n cap) := by
    rw [hW1, World.cell?_alloc_past _ _ _ (by simp [hzv]), World.cell?_alloc_at _ _ _ _ hzv.symm]; rfl
  have hy1 : W1.cell? ⟨F + 2, 0, none⟩ = some (.string s) := by
    rw [hW1, World.cell?_alloc_at _ _ _ _ (by simp [hzv])]; rfl
  have hbW : Below w.heap.size w W1 := hbv.trans (hb1.mono (by omega))
  have I0 : FindI w.heap.size F A n cap s w [] W1 := ⟨hbW, (hb1.cell (p := ⟨w.heap.size, 0, none⟩) (by show w.heap.size < _; omega)).trans hcv, (hb1.block F (by omega)).trans hfv, hx1, hy1⟩
  rw [← hW1]
  clear hW1 hbv hcv hfv hb1 hx1 hy1
  refine wpV_block ?_
  refine wpV_range2 (gf := 33) (lb := #[.pointer (some ⟨F + 1, 0, none⟩), .pointer (some ⟨F + 1 + 1, 0, none⟩)]) (encs := encW) (xs := seenW t (bs s) m) (n0 := w.heap.size) rfl (enters_of Try.func33 (by kernel_rfl) rfl) (fun x => rfl)
    (BoxesAt (F + 1) (F + 2) A n cap s) (SQ.out (F + 1) (F + 2) W1 hbW) hbW.size
    (fun pre V => Hid (FindI w.heap.size F A n cap s w pre V)) (fun pre V h => h.out.boxes) (fun ch V => False)
    (fun pre A' B h hb => Lib.hid ⟨h.out.below.trans (hb.mono (by omega)), (hb.cell (p := ⟨w.heap.size, 0, none⟩) (by show w.heap.size < _; omega)).trans h.out.box, (hb.block F (by omega)).trans h.out.found, (hb.cell (p := ⟨F + 1, 0, none⟩) (by show F + 1 < _; omega)).trans h.out.boxes.1, (hb.cell (p := ⟨F + 2, 0, none⟩) (by show F + 2 < _; omega)).trans h.out.boxes.2⟩) (Lib.hid I0) ?round ?done ?panic
  case panic => rintro ch W' h; exact h.elim
  case done =>
    rintro W' hI hk hz
    simp only [Exit.inBlock, Exit.then]
    refine HK.out _ _ ?_
    have hI := hI.out
    have hbF := hI.below
    have hcF := cell_of_one hI.found
    rw [HF.out] at hcF
    clear HK I0 hI
    refine wpV_of_wp ?_
    go_wp2
    refine door_mark (by simp) hk ?_
    exact (show ∃ v, (results _ _).run Try.prog _ = .ok v _ ∧ (_ ∧ _) from ⟨.tuple #[.int .i64 (findK t (bs s)), .int .i64 0], by simp [results, Try.results15, go_sem], rfl, hbF.trans (below_putObj.mono (by have := hbW.size; omega))⟩)
  case round =>
    rintro pre ⟨i, x⟩ rest V hx hI hz
    have HI := Lib.hid hI.out
    have hc := hI.out.box
    have hfd := hI.out.found
    clear hx hI I0
    dsimp only [encW]
    gi_wp2
    refine ⟨Below.refl _ _, ?_⟩
    intro V2 hb2 hk2 hs2
    have hc2 : V2.cell? ⟨w.heap.size, 0, none⟩ = some (.string s) := (hb2.cell (p := ⟨w.heap.size, 0, none⟩) (by show w.heap.size < _; omega)).trans hc
    have hf2 := (hb2.block F (by omega)).trans hfd
    have hI2 : FindI w.heap.size F A n cap s w pre V2 := ⟨HI.out.below.trans (hb2.mono (by omega)), hc2, hf2, (hb2.cell (p := ⟨F + 1, 0, none⟩) (by show F + 1 < _; omega)).trans HI.out.boxes.1, (hb2.cell (p := ⟨F + 2, 0, none⟩) (by show F + 2 < _; omega)).trans HI.out.boxes.2⟩
    have HI2 := Lib.hid hI2
    clear hb2 hk2 hs2 hc hfd hI2
    have cF := cell_of_one hf2
    have fF := free_of_one hf2
    have HF2 := Lib.hid hf2
    clear hf2
    by_cases hi : i = s.size
    · have hib : ((i : Int) == (s.size : Int)) = true := by rw [beq_iff_eq]; omega
      subst hi
      have hsF : Below F V2 (V2.setCell ⟨F, 0, none⟩ (.int .i64 x)) := (Below.refl F V2).setCell (p := ⟨F, 0, none⟩) (Nat.le_refl F) _
      have hoF : ∀ k, k ≠ F → (V2.setCell ⟨F, 0, none⟩ (.int .i64 x)).heap[k]? = V2.heap[k]? := fun k hk => Below.heap_setCell _ _ _ _ hk
      have HS := Lib.hid hsF
      have HO := Lib.hid hoF
      clear hsF hoF
      gi_wp2
      refine ⟨fun k h1 h2 => HO.out k (by omega), HS.out.mono (by omega), Lib.hid ⟨HI2.out.below.trans (HS.out.mono (by omega)), (HS.out.cell (p := ⟨w.heap.size, 0, none⟩) (by show w.heap.size < F; omega)).trans HI2.out.box, ?_, ?_, ?_⟩⟩
      · rw [fndW_snoc, if_pos rfl]; exact one_setCell HF2.out
      · rw [World.cell?_of_block (HO.out (F + 1) (by omega))]; exact HI2.out.boxes.1
      · rw [World.cell?_of_block (HO.out (F + 2) (by omega))]; exact HI2.out.boxes.2
    · have hib : ((i : Int) == (s.size : Int)) = false := by rw [beq_eq_false_iff_ne]; omega
      gi_wp2
      exact ⟨Below.refl _ _, Lib.hid ⟨HI2.out.below, HI2.out.box, by rw [fndW_snoc, if_neg hi]; exact HI2.out.found, HI2.out.boxes⟩⟩
end Go.Proofs.Ytggepbkhhnhnkaa
