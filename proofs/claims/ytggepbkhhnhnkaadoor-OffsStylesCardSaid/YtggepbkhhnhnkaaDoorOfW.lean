/- Offsets as text: Read. -/
import Derived.Test.YtggepbkhhnhnkaaDoorOfV
set_option linter.unusedVariables false
set_option linter.unusedSimpArgs false
namespace Gno
open Go Go.RowKit
theorem empty_yes {z : ByteArray} (h : z = ⟨#[]⟩) : z.toList = [] := by rw [h, Lib.toList_data]
theorem empty_no {z : ByteArray} (h : ¬ z = ⟨#[]⟩) : ¬ z.toList = [] := fun e => h (by
  have h1 := Lib.toList_data z
  rw [e] at h1
  rw [← B_list z, ← h1]
  rfl)
theorem isEmpty_no {z : ByteArray} (h : ¬ z = ⟨#[]⟩) : z.toList.isEmpty = false := by
  have := empty_no h
  cases hz : z.toList with
  | nil => exact absurd hz this
  | cons a l => rfl
theorem same_yes {t z : ByteArray} (h : t = z) : (t.toList == z.toList) = true := by rw [h]; exact beq_self_eq_true _
theorem same_no {t z : ByteArray} (h : ¬ t = z) : (t.toList == z.toList) = false := by
  rw [beq_eq_false_iff_ne]
  intro e
  have h1 := Lib.toList_data t
  have h2 := Lib.toList_data z
  rw [e, h2] at h1
  exact h (by rw [← B_list t, ← B_list z, h1])
end Gno
namespace Go.Proofs.YtggepbkhhnhnkaaDoor
open Go.RowKit Gno Go.Maps
theorem retO_int {m n : Int} {v : Value} (h : m = n) : Ending.returned (.tuple #[.int .i64 m, v]) = .returned (.tuple #[.int .i64 n, v]) := by rw [h]
set_option maxHeartbeats 4000000 in
theorem readW_kind (k : Int) (t : ByteArray) (hw : (Lit.int .i64 k).wf = true) (hk : kindB k = false) (w : World) : Calls Tryd.prog 7 #[.int .i64 k, .string t] w fun e w' => e = .returned (.tuple #[.int .i64 (readN k t), .int .i64 (readE k t)]) ∧ Below w.heap.size w w' := by
  rw [(read_kind t hk).1, (read_kind t hk).2]
  have C := Lib.hid (fun w => styles_any w)
  have HL := Lib.hid (fun (w1 : World) (h : w1.ownsMap Tryd.prog 3 heldR w.heap.size 4 stylesD) => look_no h hw hk)
  have hnf := fun (a : Addr) (w : World) => run_store Tryd.prog w a .nilFunc .plain rfl
  go_enter Tryd.func7, Tryd.ntmps7
  go_wp2_with (go_at_call 11; (with_reducible refine (C.out _).mono ?_); rintro e w1 ⟨rfl, hown, hb1⟩; have hlk := HL.out w1 hown)
  go_ret2
  exact ⟨rfl, below_cell hb1 hb1.size _ 0⟩
/-- the style of a kind: what Read reads of it. -/
structure Style (k : Int) (a z : ByteArray) (f : Nat) : Prop where
  ok : kindB k = true
  ahead : a = B (aheadL k)
  zero : z = B (zeroL k)
  look : ∀ (w1 : World) (b : Nat), w1.ownsMap Tryd.prog 3 heldR b 4 stylesD → LookAt w1 b k a z f
set_option maxHeartbeats 4000000 in
theorem readW_zero (k : Int) (t z a : ByteArray) (f : Nat) (S : Style k a z f) (hz : ¬ z = ⟨#[]⟩) (ht : t = z) (w : World) : Calls Tryd.prog 7 #[.int .i64 k, .string t] w fun e w' => e = .returned (.tuple #[.int .i64 (readN k t), .int .i64 (readE k t)]) ∧ Below w.heap.size w w' := by
  have h1 : zeroL k ≠ [] := fun h => hz (by rw [S.zero, h]; rfl)
  rw [(read_at_zero S.ok h1 (ht.trans S.zero)).1, (read_at_zero S.ok h1 (ht.trans S.zero)).2]
  have C := Lib.hid (fun w => styles_any w)
  have HL := Lib.hid (fun (w1 : World) h => S.look w1 w.heap.size h)
  unfold LookAt at HL
  clear S h1
  have e1 := empty_no hz
  have e2 := isEmpty_no hz
  have e3 := same_yes ht
  clear hz ht
  have hnf := fun (w : World) => fun (x : Addr) => run_store Tryd.prog w x (.func (.func f) #[] #[]) .plain rfl
  go_enter Tryd.func7, Tryd.ntmps7
  go_wp2_with (go_at_call 11; (with_reducible refine (C.out _).mono ?_); rintro e w1 ⟨rfl, hown, hb1⟩; have hlk := HL.out w1 hown)
  go_ret2
  exact ⟨rfl, below_cell hb1 hb1.size _ 0⟩
set_option maxHeartbeats 4000000 in
theorem readW_bad (k : Int) (t z a : ByteArray) (f : Nat) (S : Style k a z f) (hz : z = ⟨#[]⟩ ∨ ¬ t = z) (r : ByteArray) (hr : r = B (Lib.trimPrefix t.data.toList (aheadL k))) (p : Bool) (hp : p = Lib.hasPrefix t.data.toList (aheadL k)) (hb : p = false ∨ r.size < 2 ∨ 6 < r.size) (w : World) : Calls Tryd.prog 7 #[.int .i64 k, .string t] w fun e w' => e = .returned (.tuple #[.int .i64 (readN k t), .int .i64 (readE k t)]) ∧ Below w.heap.size w w' := by
  have HR : readN k t = 0 ∧ readE k t = 1 := read_bad S.ok (by
    rcases hz with h | h
    · refine .inl ?_
      have h2 := S.zero
      rw [h] at h2
      exact (B_inj (a := []) h2).symm
    · exact .inr fun e => h (e.trans S.zero.symm)) (by rw [← hp]; rw [hr, B_size] at hb; exact hb)
  rw [HR.1, HR.2]
  have C := Lib.hid (fun w => styles_any w)
  have HL := Lib.hid (fun (w1 : World) h => S.look w1 w.heap.size h)
  unfold LookAt at HL
  have D : Hid (∀ w : World, Calls Tryd.prog 12 #[.string t, .string a] w fun e w' => e = .returned (.tuple #[.string r, .bool p]) ∧ w' = w) := Lib.hid fun w => by
    have h := Go.Proofs.Tryd.strings_CutPrefix t a w
    rw [S.ahead] at h ⊢
    rw [B_toList, ← hp] at h
    rw [hr]
    exact h
  clear S hr hp HR
  have hnf := fun (w : World) => fun (x : Addr) => run_store Tryd.prog w x (.func (.func f) #[] #[]) .plain rfl
  go_enter Tryd.func7, Tryd.ntmps7
  have e0 : z.toList = [] ∨ (¬ z.toList = [] ∧ z.toList.isEmpty = false ∧ (t.toList == z.toList) = false) := by
    by_cases hz0 : z = ⟨#[]⟩
    · exact .inl (empty_yes hz0)
    · rcases hz with h | h
      · exact absurd h hz0
      · exact .inr ⟨empty_no hz0, isEmpty_no hz0, same_no h⟩
  clear hz
  rcases e0 with e1 | ⟨e1, e2, e3⟩
  all_goals go_upto_region 7 with (first | (go_at_call 11; (with_reducible refine (C.out _).mono ?_); rintro e w1 ⟨rfl, hown, hb1⟩; have hlk := HL.out w1 hown) | (go_at_call 12; (with_reducible refine (D.out _).mono ?_); rintro e w2 ⟨rfl, rfl⟩))
  all_goals
    rcases hb with rfl | hb
    · go_wp2
      go_ret2
      exact ⟨rfl, below_cell hb1 hb1.size _ 0⟩
    · cases p
      · go_wp2
        go_ret2
        exact ⟨rfl, below_cell hb1 hb1.size _ 0⟩
      · rcases hb with hb | hb
        · go_wp2
          go_ret2
          exact ⟨rfl, below_cell hb1 hb1.size _ 0⟩
        · go_wp2
          go_ret2
          exact ⟨rfl, below_cell hb1 hb1.size _ 0⟩
end Go.Proofs.YtggepbkhhnhnkaaDoor
