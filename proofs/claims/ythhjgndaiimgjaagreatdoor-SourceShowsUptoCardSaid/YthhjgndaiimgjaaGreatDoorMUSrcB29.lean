/- Parts of a proof, laid together. -/
import Derived.Deep.RegionHeld3
import Derived.Deep.CutRange
import Derived.Test.YthhjgndaiimgjaaGreatDoorMUSrcB20
import Derived.Test.YthhjgndaiimgjaaGreatDoorMUSrcB5
import Derived.Test.YthhjgndaiimgjaaGreatDoorMUSrcB25
import Derived.Test.YthhjgndaiimgjaaGreatDoorMUSrcB9
import Derived.Test.YthhjgndaiimgjaaGreatDoorMUSrcB12
set_option linter.unusedSimpArgs false
set_option linter.unusedVariables false
/-! The words of a line: text, num. -/
section
set_option linter.unusedVariables false
set_option linter.unusedSimpArgs false
set_option maxRecDepth 100000
namespace Gno
open Go Go.RowKit Go.Proofs.YthhjgndaiimgjaaGreatDoor
/-- what is left of a line's words. -/
def WLeft (B pw : Nat) (l : List Bt) (w : World) : Prop := B ≤ pw ∧ ∃ R g cs, R ≠ pw ∧ w.heap[pw]? = some (.cells #[.slice (some ⟨R, g, none⟩) l.length l.length] 80) ∧ w.heap[R]? = some (.cells cs 9) ∧ ∀ (i : Nat) x, l[i]? = some x → cs[g + i]? = some (.string (Bs x))
def broke : List PanicEntry := [{ v := .iface 82 (.agg #[]), recovered := false }]
/-- all but the words' block stands. -/
structure OnlyW (B pw : Nat) (w w' : World) : Prop where
  grown : w.grownBy w' (some pw)
  below : Below B w w'
theorem OnlyW.refl (B pw : Nat) (w : World) : OnlyW B pw w w := ⟨World.grownBy.refl w _, Below.refl _ _⟩
theorem grown_trans {a b c : World} {r : Option Nat} (h : a.grownBy b r) (k : b.grownBy c r) : a.grownBy c r := ⟨k.os.trans h.os, k.tape.trans h.tape, k.output.trans h.output, Nat.le_trans h.size k.size, fun i hi hr => (k.block i (Nat.lt_of_lt_of_le hi h.size) hr).trans (h.block i hi hr)⟩
theorem OnlyW.trans {B pw : Nat} {a b c : World} (h : OnlyW B pw a b) (k : OnlyW B pw b c) : OnlyW B pw a c := ⟨grown_trans h.1 k.1, h.2.trans k.2⟩
theorem grown_below {w w' : World} {r : Option Nat} (h : Below w.heap.size w w') : w.grownBy w' r := ⟨h.os, h.tape, h.output, h.size, fun k hk _ => h.block k hk⟩
theorem OnlyW.of_below {B pw : Nat} {a b : World} (h : Below a.heap.size a b) (hB : B ≤ a.heap.size) : OnlyW B pw a b := ⟨grown_below h, h.mono hB⟩
theorem WLeft.kept {B pw : Nat} {l : List Bt} {w w' : World} (h : WLeft B pw l w) (hb : Below w.heap.size w w') : WLeft B pw l w' := by
  obtain ⟨h0, R, g, cs, h1, h2, h3, h4⟩ := h
  exact ⟨h0, R, g, cs, h1, (hb.block _ (Array.getElem?_eq_some_iff.1 h2).1).trans h2, (hb.block _ (Array.getElem?_eq_some_iff.1 h3).1).trans h3, h4⟩
end Gno
namespace Go.Proofs.YthhjgndaiimgjaaGreatDoor
open Go.RowKit Gno
set_option maxHeartbeats 4000000 in
theorem text_none (B pw : Nat) (w : World) (h : WLeft B pw [] w) :
    Calls Tryz.prog 65 #[.pointer (some ⟨pw, 0, none⟩)] w fun e w' => e = .panicked broke ∧ w = w' := by
  obtain ⟨_, R, g, cs, h1, h2, h3, h4⟩ := h
  have c0 : w.cell? ⟨pw, 0, none⟩ = some (.slice (some ⟨R, g, none⟩) 0 0) := cell_of h2 rfl
  clear h1 h3 h4
  go_enter Tryz.func65, Tryz.ntmps65
  go_wp2
  exact ⟨rfl, rfl, rfl⟩
set_option maxHeartbeats 4000000 in
theorem text_some (B pw : Nat) (x : Bt) (l : List Bt) (w : World) (h : WLeft B pw (x :: l) w) (hl : l.length ≤ 1000000) :
    Calls Tryz.prog 65 #[.pointer (some ⟨pw, 0, none⟩)] w fun e w' => e = .returned (.string (Bs x)) ∧ WLeft B pw l w' ∧ OnlyW B pw w w' := by
  obtain ⟨h0, R, g, cs, h1, h2, h3, h4⟩ := h
  have c0 : w.cell? ⟨pw, 0, none⟩ = some (.slice (some ⟨R, g, none⟩) (l.length + 1) (l.length + 1)) := cell_of h2 rfl
  have f0 : w.frozen? ⟨pw, 0, none⟩ = false := frozen_of h2
  have c1 : w.cell? ⟨R, g, none⟩ = some (.string (Bs x)) := cell_of h3 (by have := h4 0 x rfl; rwa [Nat.add_zero] at this)
  obtain ⟨n, hn⟩ : ∃ n, n = l.length := ⟨_, rfl⟩
  rw [← hn] at c0
  have hn2 : n ≤ 1000000 := by omega
  have HL : Hid (∀ g' : Nat, (n ≠ 0 → g' = g + 1) → WLeft B pw l (w.setCell ⟨pw, 0, none⟩ (.slice (some ⟨R, g', none⟩) n n)) ∧ OnlyW B pw w (w.setCell ⟨pw, 0, none⟩ (.slice (some ⟨R, g', none⟩) n n))) := Lib.hid fun g' hg' => by
    refine ⟨⟨h0, R, g', cs, h1, ?_, ?_, fun i y hy => ?_⟩, ⟨rfl, rfl, rfl, by simp, fun k hk hne => Below.heap_setCell w ⟨pw, 0, none⟩ _ k (fun e => hne (by rw [e]))⟩, (Below.refl B w).setCell (p := ⟨pw, 0, none⟩) h0 _⟩
    · rw [← hn]
      simp [World.setCell, Array.getElem?_modify, h2]
    · rw [Below.heap_setCell w ⟨pw, 0, none⟩ _ R h1]
      exact h3
    · have hi := (List.getElem?_eq_some_iff.1 hy).1
      rw [hg' (by omega)]
      have := h4 (i + 1) y (by simpa using hy)
      rwa [show g + 1 + i = g + (i + 1) by omega]
  clear h1 h2 h3 h4 hn hl
  by_cases hz : n = 0
  · subst hz
    have HX := Lib.hid (HL.out g (fun h => absurd rfl h))
    go_enter Tryz.func65, Tryz.ntmps65
    go_wp2
    go_ret
    exact ⟨rfl, HX.out.1, HX.out.2⟩
  · have HX := Lib.hid (HL.out (g + 1) (fun _ => rfl))
    go_enter Tryz.func65, Tryz.ntmps65
    go_wp2
    go_ret
    exact ⟨rfl, HX.out.1, HX.out.2⟩
end Go.Proofs.YthhjgndaiimgjaaGreatDoor
end
/-! words.num, words.rule. -/
section
set_option linter.unusedVariables false
set_option linter.unusedSimpArgs false
set_option maxRecDepth 100000
namespace Gno
open Go Go.RowKit Go.Proofs.YthhjgndaiimgjaaGreatDoor
theorem pnI_yes {x : Bt} {v : Int} (h : pnI x = some v) : Lib.atoiAll x = .ok v ∧ Lib.itoa v = x := by
  unfold pnI at h
  cases hh : Lib.atoiAll x with
  | ok n =>
    rw [hh] at h
    simp only at h
    split at h
    · rename_i e; obtain rfl := Option.some.inj h; exact ⟨rfl, e⟩
    · cases h
  | _ => rw [hh] at h; cases h
theorem pnI_no {x : Bt} (h : pnI x = none) : (∀ v, Lib.atoiAll x ≠ .ok v) ∨ ∃ v, Lib.atoiAll x = .ok v ∧ Lib.itoa v ≠ x := by
  by_cases hv : ∃ v, Lib.atoiAll x = .ok v
  · obtain ⟨v, hv⟩ := hv
    refine .inr ⟨v, hv, fun e => ?_⟩
    unfold pnI at h
    rw [hv] at h
    simp only [if_pos e] at h
    cases h
  · exact .inl fun v e => hv ⟨v, e⟩
/-- a number, and what is left. -/
def numP : List Bt → Option (Int × List Bt)
  | [] => none
  | x :: t => match pnI x with
    | some v => some (v, t)
    | none => none
theorem numP_yes {ws : List Bt} {v : Int} {t : List Bt} (h : numP ws = some (v, t)) : ∃ x, ws = x :: t ∧ pnI x = some v := by
  cases ws with
  | nil => cases h
  | cons x r =>
    simp only [numP] at h
    cases hp : pnI x with
    | none => rw [hp] at h; cases h
    | some u =>
      rw [hp] at h
      injection h with h
      injection h with h1 h2
      subst h1 h2
      exact ⟨x, rfl, hp⟩
theorem numP_no {ws : List Bt} (h : numP ws = none) : ws = [] ∨ ∃ x t, ws = x :: t ∧ pnI x = none := by
  cases ws with
  | nil => exact .inl rfl
  | cons x r =>
    simp only [numP] at h
    cases hp : pnI x with
    | none => exact .inr ⟨x, r, rfl, hp⟩
    | some u => rw [hp] at h; cases h
end Gno
namespace Go.Proofs.YthhjgndaiimgjaaGreatDoor
open Go.RowKit Gno
set_option maxHeartbeats 4000000 in
theorem num_yes (B pw : Nat) (ws t : List Bt) (v : Int) (w : World) (h : WLeft B pw ws w) (hv : numP ws = some (v, t)) (hm : SMet w B) (hB : B ≤ w.heap.size) (hs : ∀ x ∈ ws, x.length ≤ 5000) (hl : ws.length ≤ 100000) :
    Calls Tryz.prog 67 #[.pointer (some ⟨pw, 0, none⟩)] w fun e w' => e = .returned (.int .i64 v) ∧ WLeft B pw t w' ∧ OnlyW B pw w w' := by
  obtain ⟨x, rfl, hp⟩ := numP_yes hv
  obtain ⟨h1, h2⟩ := pnI_yes hp
  obtain ⟨b0, b1⟩ := Lib.atoiAll_bounds h1
  have hx := hs x (by simp)
  have T := Lib.hid (text_some B pw x t w h (by simp at hl; omega))
  obtain ⟨a, ha⟩ : ∃ a, a = Bs x := ⟨_, rfl⟩
  have hsz : a.size = x.length := by rw [ha]; unfold Bs; simp [ByteArray.size]
  have HM := Lib.hid hm
  have AT : Hid (∀ W, Calls Tryz.prog 92 #[.string a] W fun e w' => e = .returned (.tuple #[.int .i64 v, .nilIface]) ∧ Below W.heap.size W w') := Lib.hid fun W => by
    rw [ha]
    exact atoiP_yes (Bs x) (by rw [← ha]; omega) v (by rw [list_Bs]; exact h1) W
  have IT : Hid (∀ W, Below B w W → Calls Tryz.prog 54 #[.int .i64 v] W fun e w' => e = .returned (.string a) ∧ Below W.heap.size W w') := Lib.hid fun W hW => by
    rw [ha, ← h2]
    exact itoaP_any v b0 b1 B W (hm.below hW (Nat.le_refl _))
  rw [← ha] at T
  clear h hv hp hm hs h1 h2 ha
  go_enter Tryz.func67, Tryz.ntmps67
  go_wp2_with (first | (go_at_call 65; (with_reducible refine T.out.mono ?_); rintro e w1 ⟨rfl, hl1, ho1⟩) | (go_at_call 92; (with_reducible refine (AT.out _).mono ?_); rintro e w2 ⟨rfl, hb2⟩) | (go_at_call 54; (with_reducible refine (IT.out _ (ho1.2.trans (hb2.mono (Nat.le_trans hB ho1.1.size)))).mono ?_); rintro e w3 ⟨rfl, hb3⟩))
  go_ret
  exact ⟨rfl, (hl1.kept hb2).kept hb3, ho1.trans ((OnlyW.of_below hb2 (Nat.le_trans hB ho1.1.size)).trans (OnlyW.of_below hb3 (Nat.le_trans (Nat.le_trans hB ho1.1.size) hb2.size)))⟩
set_option maxHeartbeats 4000000 in
theorem num_no (B pw : Nat) (ws : List Bt) (w : World) (h : WLeft B pw ws w) (hv : numP ws = none) (hm : SMet w B) (hB : B ≤ w.heap.size) (hs : ∀ x ∈ ws, x.length ≤ 5000) (hl : ws.length ≤ 100000) :
    Calls Tryz.prog 67 #[.pointer (some ⟨pw, 0, none⟩)] w fun e w' => e = .panicked broke ∧ OnlyW B pw w w' := by
  rcases numP_no hv with rfl | ⟨x, t, rfl, hp⟩
  · have T := Lib.hid (text_none B pw w h)
    clear h hv hm hs
    go_enter Tryz.func67, Tryz.ntmps67
    go_wp2_with (go_at_call 65; (with_reducible refine T.out.mono ?_); rintro e w1 ⟨rfl, rfl⟩)
    exact ⟨rfl, rfl, OnlyW.refl _ _ _⟩
  · have hx := hs x (by simp)
    have T := Lib.hid (text_some B pw x t w h (by simp at hl; omega))
    obtain ⟨a, ha⟩ : ∃ a, a = Bs x := ⟨_, rfl⟩
    have hsz : a.size = x.length := by rw [ha]; unfold Bs; simp [ByteArray.size]
    have HM := Lib.hid hm
    rcases pnI_no hp with hno | ⟨v, h1, h2⟩
    · have AT : Hid (∀ W, Below B w W → Calls Tryz.prog 92 #[.string a] W fun e w' => ∃ y T N, e = .returned (.tuple #[.int .i64 y, .iface T (.pointer (some ⟨N, 0, none⟩))]) ∧ Below W.heap.size W w') := Lib.hid fun W hW => by
        rw [ha]
        exact atoiP_not (Bs x) (by rw [← ha]; omega) (by rw [list_Bs]; exact hno) B W (hm.below hW (Nat.le_refl _))
      rw [← ha] at T
      clear h hv hp hm hs ha hno
      go_enter Tryz.func67, Tryz.ntmps67
      go_wp2_with (first | (go_at_call 65; (with_reducible refine T.out.mono ?_); rintro e w1 ⟨rfl, hl1, ho1⟩) | (go_at_call 92; (with_reducible refine (AT.out _ ho1.2).mono ?_); rintro e w2 ⟨y, T', N, rfl, hb2⟩))
      exact ⟨rfl, rfl, ho1.trans (OnlyW.of_below hb2 (Nat.le_trans hB ho1.1.size))⟩
    · obtain ⟨b0, b1⟩ := Lib.atoiAll_bounds h1
      have AT : Hid (∀ W, Calls Tryz.prog 92 #[.string a] W fun e w' => e = .returned (.tuple #[.int .i64 v, .nilIface]) ∧ Below W.heap.size W w') := Lib.hid fun W => by
        rw [ha]
        exact atoiP_yes (Bs x) (by rw [← ha]; omega) v (by rw [list_Bs]; exact h1) W
      obtain ⟨c, hc⟩ : ∃ c, c = Bs (Lib.itoa v) := ⟨_, rfl⟩
      have hne : (c.toList == a.toList) = false := by
        rw [hc, ha, Lib.toList_data, Lib.toList_data, list_Bs, list_Bs]
        exact beq_eq_false_iff_ne.2 h2
      have IT : Hid (∀ W, Below B w W → Calls Tryz.prog 54 #[.int .i64 v] W fun e w' => e = .returned (.string c) ∧ Below W.heap.size W w') := Lib.hid fun W hW => by
        rw [hc]
        exact itoaP_any v b0 b1 B W (hm.below hW (Nat.le_refl _))
      rw [← ha] at T
      clear h hv hp hm hs ha h1 h2 hc
      go_enter Tryz.func67, Tryz.ntmps67
      go_wp2_with (first | (go_at_call 65; (with_reducible refine T.out.mono ?_); rintro e w1 ⟨rfl, hl1, ho1⟩) | (go_at_call 92; (with_reducible refine (AT.out _).mono ?_); rintro e w2 ⟨rfl, hb2⟩) | (go_at_call 54; (with_reducible refine (IT.out _ (ho1.2.trans (hb2.mono (Nat.le_trans hB ho1.1.size)))).mono ?_); rintro e w3 ⟨rfl, hb3⟩))
      exact ⟨rfl, rfl, ho1.trans ((OnlyW.of_below hb2 (Nat.le_trans hB ho1.1.size)).trans (OnlyW.of_below hb3 (Nat.le_trans (Nat.le_trans hB ho1.1.size) hb2.size)))⟩
end Go.Proofs.YthhjgndaiimgjaaGreatDoor
end
/-! words.rule. -/
section
set_option linter.unusedVariables false
set_option linter.unusedSimpArgs false
set_option maxRecDepth 100000
namespace Gno
open Go Go.RowKit Go.Proofs.YthhjgndaiimgjaaGreatDoor
/-- numbers, and what is left. -/
def numsP : Nat → List Bt → Option (List Int × List Bt)
  | 0, ws => some ([], ws)
  | k + 1, ws => match numP ws with
    | some (v, t) => (numsP k t).map fun q => (v :: q.1, q.2)
    | none => none
theorem numsP_step {ws r t : List Bt} {l : List Int} {v : Int} {i : Nat} (hi : i < 8) (h : numsP 8 ws = (numsP (8 - i) r).map fun q => (l ++ q.1, q.2)) (hv : numP r = some (v, t)) :
    numsP 8 ws = (numsP (8 - (i + 1)) t).map fun q => ((l ++ [v]) ++ q.1, q.2) := by
  rw [h, show 8 - i = (8 - (i + 1)) + 1 by omega]
  simp only [numsP, hv, Option.map_map]
  congr 1
  funext q
  simp
theorem numsP_stop {ws r : List Bt} {l : List Int} {i : Nat} (hi : i < 8) (h : numsP 8 ws = (numsP (8 - i) r).map fun q => (l ++ q.1, q.2)) (hv : numP r = none) : numsP 8 ws = none := by
  rw [h, show 8 - i = (8 - (i + 1)) + 1 by omega]
  simp only [numsP, hv, Option.map_none]
theorem numP_sub {ws t : List Bt} {v : Int} (h : numP ws = some (v, t)) {n m : Nat} (hs : ∀ x ∈ ws, x.length ≤ n) (hl : ws.length ≤ m) : (∀ x ∈ t, x.length ≤ n) ∧ t.length ≤ m := by
  obtain ⟨x, rfl, _⟩ := numP_yes h
  exact ⟨fun y hy => hs y (List.mem_cons_of_mem _ hy), by simp at hl; omega⟩
/-- a rule that is read so far. -/
def rcell (l : List Int) : List Value := (l ++ List.replicate (8 - l.length) 0).map (Value.int .i64) ++ [.string ⟨#[]⟩]
theorem rcell_set {l : List Int} {i : Nat} (hl : l.length = i) (hi : i < 8) (v : Int) : (rcell l).set i (.int .i64 v) = rcell (l ++ [v]) := by
  unfold rcell
  rw [List.set_append_left _ _ (by simp; omega), ← List.map_set, List.set_append_right _ _ (by omega), show 8 - l.length = (8 - (l ++ [v]).length) + 1 by simp; omega, List.replicate_succ, hl, Nat.sub_self, List.set_cons_zero]
  simp
theorem rcell_get {l : List Int} {i : Nat} (hl : l.length = i) (hi : i < 8) : (rcell l)[i]? = some (.int .i64 0) := by
  unfold rcell
  rw [List.getElem?_append_left (by simp; omega), List.getElem?_map, List.getElem?_append_right (by omega), hl, Nat.sub_self, List.getElem?_replicate_of_lt (by omega)]
  rfl
/-- the value of a rule that was read. -/
def rlV (l : List Int) (x : Bt) : Value := .agg #[.int .i64 (l.getD 0 0), .int .i64 (l.getD 1 0), .int .i64 (l.getD 2 0), .int .i64 (l.getD 3 0), .int .i64 (l.getD 4 0), .int .i64 (l.getD 5 0), .int .i64 (l.getD 6 0), .int .i64 (l.getD 7 0), .string (Bs (wLet x))]
def zeroR : Array Value := #[.int .i64 0, .int .i64 0, .int .i64 0, .int .i64 0, .int .i64 0, .int .i64 0, .int .i64 0, .int .i64 0, .string ⟨#[]⟩]
def ptrsR (rb : Nat) : Array Value := #[.pointer (some ⟨rb, 0, none⟩), .pointer (some ⟨rb, 1, none⟩), .pointer (some ⟨rb, 2, none⟩), .pointer (some ⟨rb, 3, none⟩), .pointer (some ⟨rb, 4, none⟩), .pointer (some ⟨rb, 5, none⟩), .pointer (some ⟨rb, 6, none⟩), .pointer (some ⟨rb, 7, none⟩)]
theorem ptrsR_get (rb : Nat) : ∀ i, i < 8 → (ptrsR rb)[i]? = some (.pointer (some ⟨rb, i, none⟩))
  | 0, _ => rfl
  | 1, _ => rfl
  | 2, _ => rfl
  | 3, _ => rfl
  | 4, _ => rfl
  | 5, _ => rfl
  | 6, _ => rfl
  | 7, _ => rfl
theorem set_block {W : World} {b i : Nat} {l : List Value} {T : TypeId} (h : W.heap[b]? = some (.cells l.toArray T)) (v : Value) : (W.setCell ⟨b, i, none⟩ v).heap[b]? = some (.cells (l.set i v).toArray T) := by
  simp [World.setCell, Array.getElem?_modify, h]
/-- the worlds of a rule that is read: the box of the answer (Z), of the rule (Z + 1), the pointers (Z + 2). -/
structure RBox (B pw Z : Nat) (l : List Int) (w W : World) : Prop where
  only : OnlyW B pw w W
  z : W.heap[Z]? = some (.cells zeroR 53)
  r : W.heap[Z + 1]? = some (.cells (rcell l).toArray 53)
  p : W.heap[Z + 2]? = some (.cells (ptrsR (Z + 1)) 137)
theorem RBox.next {B pw Z : Nat} {l : List Int} {w W W' : World} (h : RBox B pw Z l w W) (hZ : pw < Z) (ho : OnlyW B pw W W') : RBox B pw Z l w W' := by
  have k : ∀ j o, Z ≤ j → W.heap[j]? = some o → W'.heap[j]? = some o := fun j o hj hh => (ho.grown.block j (Array.getElem?_eq_some_iff.1 hh).1 (fun e => by injection e; omega)).trans hh
  exact ⟨h.only.trans ho, k _ _ (Nat.le_refl _) h.z, k _ _ (by omega) h.r, k _ _ (by omega) h.p⟩
theorem RBox.store {B pw Z : Nat} {l : List Int} {w W : World} (h : RBox B pw Z l w W) (hBZ : B ≤ Z) (hwZ : w.heap.size ≤ Z) {i : Nat} (hl : l.length = i) (hi : i < 8) (v : Int) : RBox B pw Z (l ++ [v]) w (W.setCell ⟨Z + 1, i, none⟩ (.int .i64 v)) := by
  have k : ∀ j, j ≠ Z + 1 → (W.setCell ⟨Z + 1, i, none⟩ (.int .i64 v)).heap[j]? = W.heap[j]? := fun j hj => Below.heap_setCell W ⟨Z + 1, i, none⟩ _ j hj
  refine ⟨⟨⟨h.only.grown.os, h.only.grown.tape, h.only.grown.output, by have := h.only.grown.size; simpa using this, fun j hj hne => (k j (by omega)).trans (h.only.grown.block j hj hne)⟩, h.only.below.setCell (p := ⟨Z + 1, i, none⟩) (by show B ≤ Z + 1; omega) _⟩, (k Z (by omega)).trans h.z, ?_, (k (Z + 2) (by omega)).trans h.p⟩
  rw [set_block h.r, rcell_set hl hi]
theorem WLeft.set {B pw b i : Nat} {l : List Bt} {W : World} {c : Array Value} {T : TypeId} (h : WLeft B pw l W) (hb : W.heap[b]? = some (.cells c T)) (hT : T ≠ 9) (hne : b ≠ pw) (v : Value) : WLeft B pw l (W.setCell ⟨b, i, none⟩ v) := by
  obtain ⟨h0, R, g, cs, h1, h2, h3, h4⟩ := h
  have hR : R ≠ b := by
    rintro rfl
    rw [h3] at hb
    injection hb with hb
    injection hb with _ e
    exact hT e.symm
  exact ⟨h0, R, g, cs, h1, (Below.heap_setCell W ⟨b, i, none⟩ v pw (fun e => hne e.symm)).trans h2, (Below.heap_setCell W ⟨b, i, none⟩ v R hR).trans h3, h4⟩
theorem set9 {U : World} {Z : Nat} {T : TypeId} (h : U.heap[Z]? = some (.cells zeroR T)) (a1 a2 a3 a4 a5 a6 a7 a8 : Int) (c : ByteArray) :
    (((((((((U.setCell ⟨Z, 0, none⟩ (.int .i64 a1)).setCell ⟨Z, 1, none⟩ (.int .i64 a2)).setCell ⟨Z, 2, none⟩ (.int .i64 a3)).setCell ⟨Z, 3, none⟩ (.int .i64 a4)).setCell ⟨Z, 4, none⟩ (.int .i64 a5)).setCell ⟨Z, 5, none⟩ (.int .i64 a6)).setCell ⟨Z, 6, none⟩ (.int .i64 a7)).setCell ⟨Z, 7, none⟩ (.int .i64 a8)).setCell ⟨Z, 8, none⟩ (.string c)).heap[Z]? = some (.cells #[.int .i64 a1, .int .i64 a2, .int .i64 a3, .int .i64 a4, .int .i64 a5, .int .i64 a6, .int .i64 a7, .int .i64 a8, .string c] T) := by
  simp [World.setCell, Array.getElem?_modify, h, zeroR]
/-- a block of cells of a type. -/
def HasT (T : TypeId) (b : Nat) (W : World) : Prop := ∃ c, W.heap[b]? = some (.cells c T)
theorem HasT.set {T : TypeId} {b : Nat} {W : World} (h : HasT T b W) (i : Nat) (v : Value) : HasT T b (W.setCell ⟨b, i, none⟩ v) := by
  obtain ⟨c, h⟩ := h
  exact ⟨(c.toList.set i v).toArray, set_block (l := c.toList) h v⟩
theorem OnlyW.set {B pw : Nat} {w W : World} (h : OnlyW B pw w W) {b : Nat} (hb : w.heap.size ≤ b) (hB : B ≤ b) (i : Nat) (v : Value) : OnlyW B pw w (W.setCell ⟨b, i, none⟩ v) :=
  ⟨⟨h.grown.os, h.grown.tape, h.grown.output, by have := h.grown.size; simpa using this, fun j hj hne => (Below.heap_setCell W ⟨b, i, none⟩ v j (by show j ≠ b; omega)).trans (h.grown.block j hj hne)⟩, h.below.setCell (p := ⟨b, i, none⟩) hB _⟩
/-- what is known of words, and of what stands, is kept by a store into such a block. -/
structure WKeep (B pw b : Nat) (t : List Bt) (w W : World) : Prop where
  left : WLeft B pw t W
  only : OnlyW B pw w W
  has : HasT 53 b W
theorem WKeep.set {B pw b : Nat} {t : List Bt} {w W : World} (h : WKeep B pw b t w W) (hw : w.heap.size ≤ b) (hB : B ≤ b) (hp : b ≠ pw) (i : Nat) (v : Value) : WKeep B pw b t w (W.setCell ⟨b, i, none⟩ v) := by
  obtain ⟨c, hc⟩ := h.has
  exact ⟨h.left.set hc (by decide) hp v, h.only.set hw hB i v, h.has.set i v⟩
end Gno
namespace Go.Proofs.YthhjgndaiimgjaaGreatDoor
open Go.RowKit Gno
theorem ret_rule {Z : Nat} {tmps : Array Value} {E : World} (a1 a2 a3 a4 a5 a6 a7 a8 : Int) (c : ByteArray) (ht : tmps[2]? = some (.pointer (some ⟨Z, 0, none⟩))) (h : E.heap[Z]? = some (.cells #[.int .i64 a1, .int .i64 a2, .int .i64 a3, .int .i64 a4, .int .i64 a5, .int .i64 a6, .int .i64 a7, .int .i64 a8, .string c] 53)) :
    (results Tryz.f66 tmps).run Tryz.prog E = .ok (.agg #[.int .i64 a1, .int .i64 a2, .int .i64 a3, .int .i64 a4, .int .i64 a5, .int .i64 a6, .int .i64 a7, .int .i64 a8, .string c]) E := by
  have e0 : E.cell? ⟨Z, 0, none⟩ = some (.int .i64 a1) := cell_of h rfl
  have e1 : E.cell? ⟨Z, 1, none⟩ = some (.int .i64 a2) := cell_of h rfl
  have e2 : E.cell? ⟨Z, 2, none⟩ = some (.int .i64 a3) := cell_of h rfl
  have e3 : E.cell? ⟨Z, 3, none⟩ = some (.int .i64 a4) := cell_of h rfl
  have e4 : E.cell? ⟨Z, 4, none⟩ = some (.int .i64 a5) := cell_of h rfl
  have e5 : E.cell? ⟨Z, 5, none⟩ = some (.int .i64 a6) := cell_of h rfl
  have e6 : E.cell? ⟨Z, 6, none⟩ = some (.int .i64 a7) := cell_of h rfl
  have e7 : E.cell? ⟨Z, 7, none⟩ = some (.int .i64 a8) := cell_of h rfl
  have e8 : E.cell? ⟨Z, 8, none⟩ = some (.string c) := cell_of h rfl
  simp [results, Tryz.results66, go_sem, ht, e0, e1, e2, e3, e4, e5, e6, e7, e8]
set_option maxHeartbeats 8000000 in
theorem rule_read (B pw : Nat) (ws : List Bt) (w : World) (h : WLeft B pw ws w) (hm : SMet w B) (hB : B ≤ w.heap.size) (hs : ∀ x ∈ ws, x.length ≤ 5000) (hl : ws.length ≤ 100000) :
    Calls Tryz.prog 66 #[.pointer (some ⟨pw, 0, none⟩)] w fun e w' => OnlyW B pw w w' ∧ ((∃ l x t, numsP 8 ws = some (l, x :: t) ∧ e = .returned (rlV l x) ∧ WLeft B pw t w') ∨ ((numsP 8 ws = none ∨ ∃ l, numsP 8 ws = some (l, [])) ∧ e = .panicked broke)) := by
  have HM := Lib.hid hm
  have hpw : pw < w.heap.size := by
    obtain ⟨_, R, g, cs, _, h2, _⟩ := h
    exact (Array.getElem?_eq_some_iff.1 h2).1
  obtain ⟨Z, hZ⟩ : ∃ Z, Z = w.heap.size := ⟨_, rfl⟩
  obtain ⟨W0, hW0⟩ : ∃ W0, W0 = ((w.alloc (.cells zeroR 53)).alloc (.cells zeroR 53)).alloc (.cells (ptrsR (Z + 1)) 137) := ⟨_, rfl⟩
  have hb0 : Below w.heap.size w W0 := by rw [hW0]; exact (((Below.refl _ _).alloc (Nat.le_refl _) _).alloc (by simp) _).alloc (by simp; omega) _
  have HB0 : Hid (RBox B pw Z [] w W0) := Lib.hid (by
    refine ⟨OnlyW.of_below hb0 hB, ?_, ?_, ?_⟩
    · rw [hW0, Below.heap_alloc _ _ _ (by simp; omega), Below.heap_alloc _ _ _ (by simp; omega), hZ]
      exact World.alloc_heap_new w _
    · rw [hW0, Below.heap_alloc _ _ _ (by simp; omega), hZ]
      have := World.alloc_heap_new (w.alloc (.cells zeroR 53)) (.cells zeroR 53)
      rw [World.size_alloc] at this
      exact this
    · rw [hW0]
      have := World.alloc_heap_new ((w.alloc (.cells zeroR 53)).alloc (.cells zeroR 53)) (.cells (ptrsR (Z + 1)) 137)
      rw [World.size_alloc, World.size_alloc, ← hZ] at this
      exact this)
  have HL0 : Hid (WLeft B pw ws W0) := Lib.hid (h.kept hb0)
  have HSL : Hid ((∀ x ∈ ws, x.length ≤ 5000) ∧ ws.length ≤ 100000) := Lib.hid ⟨hs, hl⟩
  have HN0 : Hid (numsP 8 ws = (numsP (8 - 0) ws).map fun q => ([] ++ q.1, q.2)) := Lib.hid (by simp)
  have hpZ : pw < Z := by omega
  have hBZ : B ≤ Z := by omega
  have hwZ : w.heap.size ≤ Z := by omega
  unfold zeroR ptrsR at hW0
  clear h hm hs hl hb0
  go_enter Tryz.func66, Tryz.ntmps66
  go_wp2_with fail
  rw [hZ] at hW0
  rw [← hW0]
  clear hW0
  rw [← hZ]
  clear hZ
  go_loopw [20] (fun b20 wr => ∃ (i : Nat) (l : List Int) (r : List Bt), i ≤ 8 ∧ b20 = .int .i64 i ∧ l.length = i ∧ Hid (numsP 8 ws = (numsP (8 - i) r).map fun q => (l ++ q.1, q.2)) ∧ Hid (WLeft B pw r wr) ∧ Hid ((∀ x ∈ r, x.length ≤ 5000) ∧ r.length ≤ 100000) ∧ Hid (RBox B pw Z l w wr)) (fun b20 _ => 8 - (intOf b20).toNat)
  case atStart => exact ⟨0, [], ws, Nat.zero_le _, rfl, rfl, HN0, HL0, HSL, HB0⟩
  case round =>
    clear HB0 HL0 HN0 HSL
    obtain ⟨i, l, r, hi, rfl, hll, hN, hL, hS, hR⟩ := hrel
    have hBr : B ≤ wr.heap.size := Nat.le_trans hB hR.out.only.grown.size
    have hmr := HM.out.below hR.out.only.below (Nat.le_refl _)
    by_cases hlt : i < 8
    · have e0 : wr.cell? ⟨Z + 2, i, none⟩ = some (.pointer (some ⟨Z + 1, i, none⟩)) := cell_of hR.out.p (ptrsR_get _ i hlt)
      cases hv : numP r with
      | some q =>
        obtain ⟨v, t⟩ := q
        have hN' := Lib.hid (numsP_step hlt hN.out hv)
        have hS' := Lib.hid (numP_sub hv hS.out.1 hS.out.2)
        have C := Lib.hid (num_yes B pw r t v wr hL.out hv hmr hBr hS.out.1 hS.out.2)
        have hRN : Hid (∀ W, OnlyW B pw wr W → WLeft B pw t W → W.cell? ⟨Z + 1, i, none⟩ = some (.int .i64 0) ∧ W.frozen? ⟨Z + 1, i, none⟩ = false ∧ Hid (RBox B pw Z (l ++ [v]) w (W.setCell ⟨Z + 1, i, none⟩ (.int .i64 v))) ∧ Hid (WLeft B pw t (W.setCell ⟨Z + 1, i, none⟩ (.int .i64 v)))) := Lib.hid fun W hW hWL => by
          have h1 := hR.out.next hpZ hW
          exact ⟨cell_of h1.r (by rw [List.getElem?_toArray]; exact rcell_get hll hlt), frozen_of h1.r, Lib.hid (h1.store hBZ hwZ hll hlt v), Lib.hid (hWL.set h1.r (by decide) (by omega) _)⟩
        clear hv hmr hBr hN hL hS hR
        go_wp2_with (go_at_call 67; (with_reducible refine C.out.mono ?_); rintro e w1 ⟨rfl, hl1, ho1⟩; obtain ⟨c0, c1, hR1, hL1⟩ := hRN.out _ ho1 hl1; clear e0)
        go_roundw
        case rel => exact ⟨i + 1, l ++ [v], t, by omega, by go_num, by simp [hll], hN', hL1, hS', hR1⟩
        case measure => simp [intOf] <;> omega
      | none =>
        have HX := Lib.hid (numsP_stop hlt hN.out hv)
        have C := Lib.hid (num_no B pw r wr hL.out hv hmr hBr hS.out.1 hS.out.2)
        clear hv hmr hBr
        go_wp2_with (go_at_call 67; (with_reducible refine C.out.mono ?_); rintro e w1 ⟨rfl, ho1⟩)
        exact ⟨rfl, hR.out.only.trans ho1, .inr ⟨.inl HX.out, rfl⟩⟩
    · obtain rfl : i = 8 := by omega
      have HX : Hid (numsP 8 ws = some (l, r)) := Lib.hid (by rw [hN.out]; simp [numsP])
      obtain ⟨a1, a2, a3, a4, a5, a6, a7, a8, rfl⟩ := list8 hll
      cases r with
      | nil =>
        have C := Lib.hid (text_none B pw wr hL.out)
        clear hmr hBr
        go_wp2_with (go_at_call 65; (with_reducible refine C.out.mono ?_); rintro e w1 ⟨rfl, rfl⟩)
        exact ⟨rfl, hR.out.only, .inr ⟨.inr ⟨_, HX.out⟩, rfl⟩⟩
      | cons x t =>
        have C := Lib.hid (text_some B pw x t wr hL.out (by have := hS.out.2; simp at this; omega))
        obtain ⟨a, ha⟩ : ∃ a, a = Bs x := ⟨_, rfl⟩
        rw [← ha] at C
        have hUU : Hid (∀ W, OnlyW B pw wr W → W.heap[Z + 1]? = some (.cells #[.int .i64 a1, .int .i64 a2, .int .i64 a3, .int .i64 a4, .int .i64 a5, .int .i64 a6, .int .i64 a7, .int .i64 a8, .string ⟨#[]⟩] 53) ∧ W.heap[Z]? = some (.cells #[.int .i64 0, .int .i64 0, .int .i64 0, .int .i64 0, .int .i64 0, .int .i64 0, .int .i64 0, .int .i64 0, .string ⟨#[]⟩] 53) ∧ OnlyW B pw w W) := Lib.hid fun W hW => by
          have h1 := hR.out.next hpZ hW
          exact ⟨h1.r, h1.z, h1.only⟩
        have HF : ∀ c : ByteArray, Hid (∀ W : World, W.heap[Z + 1]? = some (.cells #[.int .i64 a1, .int .i64 a2, .int .i64 a3, .int .i64 a4, .int .i64 a5, .int .i64 a6, .int .i64 a7, .int .i64 a8, .string c] 53) → W.cell? ⟨Z + 1, 0, none⟩ = some (.int .i64 a1) ∧ W.cell? ⟨Z + 1, 1, none⟩ = some (.int .i64 a2) ∧ W.cell? ⟨Z + 1, 2, none⟩ = some (.int .i64 a3) ∧ W.cell? ⟨Z + 1, 3, none⟩ = some (.int .i64 a4) ∧ W.cell? ⟨Z + 1, 4, none⟩ = some (.int .i64 a5) ∧ W.cell? ⟨Z + 1, 5, none⟩ = some (.int .i64 a6) ∧ W.cell? ⟨Z + 1, 6, none⟩ = some (.int .i64 a7) ∧ W.cell? ⟨Z + 1, 7, none⟩ = some (.int .i64 a8) ∧ W.cell? ⟨Z + 1, 8, none⟩ = some (.string c)) := fun c => Lib.hid fun W h => ⟨cell_of h rfl, cell_of h rfl, cell_of h rfl, cell_of h rfl, cell_of h rfl, cell_of h rfl, cell_of h rfl, cell_of h rfl, cell_of h rfl⟩
        have HG : Hid (∀ W : World, W.heap[Z]? = some (.cells #[.int .i64 0, .int .i64 0, .int .i64 0, .int .i64 0, .int .i64 0, .int .i64 0, .int .i64 0, .int .i64 0, .string ⟨#[]⟩] 53) → W.cell? ⟨Z, 0, none⟩ = some (.int .i64 0) ∧ W.cell? ⟨Z, 1, none⟩ = some (.int .i64 0) ∧ W.cell? ⟨Z, 2, none⟩ = some (.int .i64 0) ∧ W.cell? ⟨Z, 3, none⟩ = some (.int .i64 0) ∧ W.cell? ⟨Z, 4, none⟩ = some (.int .i64 0) ∧ W.cell? ⟨Z, 5, none⟩ = some (.int .i64 0) ∧ W.cell? ⟨Z, 6, none⟩ = some (.int .i64 0) ∧ W.cell? ⟨Z, 7, none⟩ = some (.int .i64 0) ∧ W.cell? ⟨Z, 8, none⟩ = some (.string ⟨#[]⟩) ∧ W.frozen? ⟨Z, 0, none⟩ = false ∧ W.frozen? ⟨Z, 1, none⟩ = false ∧ W.frozen? ⟨Z, 2, none⟩ = false ∧ W.frozen? ⟨Z, 3, none⟩ = false ∧ W.frozen? ⟨Z, 4, none⟩ = false ∧ W.frozen? ⟨Z, 5, none⟩ = false ∧ W.frozen? ⟨Z, 6, none⟩ = false ∧ W.frozen? ⟨Z, 7, none⟩ = false ∧ W.frozen? ⟨Z, 8, none⟩ = false) := Lib.hid fun W h => ⟨cell_of h rfl, cell_of h rfl, cell_of h rfl, cell_of h rfl, cell_of h rfl, cell_of h rfl, cell_of h rfl, cell_of h rfl, cell_of h rfl, frozen_of h, frozen_of h, frozen_of h, frozen_of h, frozen_of h, frozen_of h, frozen_of h, frozen_of h, frozen_of h⟩
        clear hL hS hN hR
        by_cases hd : x = [45]
        · have g1 : (a.toList == ([45] : List UInt8)) = true := by rw [ha, hd, Lib.toList_data, list_Bs]; rfl
          have HV : Hid (Bs (wLet x) = ⟨#[]⟩) := Lib.hid (by unfold wLet; rw [if_pos hd]; rfl)
          replace HF := HF ⟨#[]⟩
          clear hd ha hmr hBr
          go_upto_region 10 with (go_at_call 65; (with_reducible refine C.out.mono ?_); rintro e U ⟨rfl, hUL, ho1⟩)
          obtain ⟨hU1, hU0, hUO⟩ := hUU.out _ ho1
          obtain ⟨c0, c1, c2, c3, c4, c5, c6, c7, c8⟩ := HF.out _ hU1
          obtain ⟨d0, d1, d2, d3, d4, d5, d6, d7, d8, f0, f1, f2, f3, f4, f5, f6, f7, f8⟩ := HG.out _ hU0
          clear hU1
          have HWK := Lib.hid (show WKeep B pw Z t w U from ⟨hUL, hUO, ⟨_, hU0⟩⟩)
          have HZU := Lib.hid hU0
          clear hUL hUO hU0
          go_wp2_with fail
          have HE : WKeep B pw Z t w _ := (((((((((HWK.out.set hwZ hBZ (by omega) 0 (.int .i64 a1)).set hwZ hBZ (by omega) 1 (.int .i64 a2)).set hwZ hBZ (by omega) 2 (.int .i64 a3)).set hwZ hBZ (by omega) 3 (.int .i64 a4)).set hwZ hBZ (by omega) 4 (.int .i64 a5)).set hwZ hBZ (by omega) 5 (.int .i64 a6)).set hwZ hBZ (by omega) 6 (.int .i64 a7)).set hwZ hBZ (by omega) 7 (.int .i64 a8)).set hwZ hBZ (by omega) 8 (.string ⟨#[]⟩))
          have HS := set9 HZU.out a1 a2 a3 a4 a5 a6 a7 a8 ⟨#[]⟩
          refine ⟨rfl, _, ret_rule a1 a2 a3 a4 a5 a6 a7 a8 ⟨#[]⟩ rfl HS, HE.only, .inl ⟨_, x, t, HX.out, ?_, HE.left⟩⟩
          unfold rlV
          rw [HV.out]
          rfl
        · have g1 : (a.toList == ([45] : List UInt8)) = false := by rw [ha, Lib.toList_data, list_Bs]; exact beq_eq_false_iff_ne.2 hd
          have HV : Hid (Bs (wLet x) = a) := Lib.hid (by unfold wLet; rw [if_neg hd, ha])
          replace HF := HF a
          clear hd ha hmr hBr
          go_upto_region 9 with (go_at_call 65; (with_reducible refine C.out.mono ?_); rintro e w1 ⟨rfl, hl1, ho1⟩)
          obtain ⟨h1, h0, hO⟩ := hUU.out _ ho1
          have k8 : w1.cell? ⟨Z + 1, 8, none⟩ = some (.string ⟨#[]⟩) := cell_of h1 rfl
          have q8 : w1.frozen? ⟨Z + 1, 8, none⟩ = false := frozen_of h1
          obtain ⟨U, hU⟩ : ∃ U, U = w1.setCell ⟨Z + 1, 8, none⟩ (.string a) := ⟨_, rfl⟩
          have hU1 : U.heap[Z + 1]? = some (.cells #[.int .i64 a1, .int .i64 a2, .int .i64 a3, .int .i64 a4, .int .i64 a5, .int .i64 a6, .int .i64 a7, .int .i64 a8, .string a] 53) := by rw [hU]; exact (set_block (l := [.int .i64 a1, .int .i64 a2, .int .i64 a3, .int .i64 a4, .int .i64 a5, .int .i64 a6, .int .i64 a7, .int .i64 a8, .string ⟨#[]⟩]) h1 (.string a)).trans rfl
          have hU0 : U.heap[Z]? = some (.cells #[.int .i64 0, .int .i64 0, .int .i64 0, .int .i64 0, .int .i64 0, .int .i64 0, .int .i64 0, .int .i64 0, .string ⟨#[]⟩] 53) := by rw [hU]; exact (Below.heap_setCell w1 ⟨Z + 1, 8, none⟩ _ Z (by simp)).trans h0
          have hUL : WLeft B pw t U := by rw [hU]; exact hl1.set h1 (by decide) (by omega) _
          have hUO : OnlyW B pw w U := by rw [hU]; exact hO.set (by omega) (by omega) _ _
          clear h1 h0 hO hl1 ho1 C
          go_upto_region 10 with fail
          rw [← hU]
          clear k8 q8 hU
          obtain ⟨c0, c1, c2, c3, c4, c5, c6, c7, c8⟩ := HF.out _ hU1
          obtain ⟨d0, d1, d2, d3, d4, d5, d6, d7, d8, f0, f1, f2, f3, f4, f5, f6, f7, f8⟩ := HG.out _ hU0
          clear hU1
          have HWK := Lib.hid (show WKeep B pw Z t w U from ⟨hUL, hUO, ⟨_, hU0⟩⟩)
          have HZU := Lib.hid hU0
          clear hUL hUO hU0
          go_wp2_with fail
          have HE : WKeep B pw Z t w _ := (((((((((HWK.out.set hwZ hBZ (by omega) 0 (.int .i64 a1)).set hwZ hBZ (by omega) 1 (.int .i64 a2)).set hwZ hBZ (by omega) 2 (.int .i64 a3)).set hwZ hBZ (by omega) 3 (.int .i64 a4)).set hwZ hBZ (by omega) 4 (.int .i64 a5)).set hwZ hBZ (by omega) 5 (.int .i64 a6)).set hwZ hBZ (by omega) 6 (.int .i64 a7)).set hwZ hBZ (by omega) 7 (.int .i64 a8)).set hwZ hBZ (by omega) 8 (.string a))
          have HS := set9 HZU.out a1 a2 a3 a4 a5 a6 a7 a8 a
          refine ⟨rfl, _, ret_rule a1 a2 a3 a4 a5 a6 a7 a8 a rfl HS, HE.only, .inl ⟨_, x, t, HX.out, ?_, HE.left⟩⟩
          unfold rlV
          rw [HV.out]
          rfl
end Go.Proofs.YthhjgndaiimgjaaGreatDoor
end
/-! strings.Lines: its iterator. -/
section
set_option linter.unusedVariables false
set_option linter.unusedSimpArgs false
set_option maxRecDepth 100000
namespace Gno
open Go Go.RowKit Go.Proofs.YthhjgndaiimgjaaGreatDoor
/-- the lines of a text, with their ends. -/
def rawN : Nat → Bt → List Bt
  | 0, _ => []
  | n + 1, l => if l = [] then [] else if Lib.indexByte l 10 = -1 then [l] else l.take ((Lib.indexByte l 10).toNat + 1) :: rawN n (l.drop ((Lib.indexByte l 10).toNat + 1))
theorem rawN_nil (n : Nat) : rawN n [] = [] := by cases n <;> simp [rawN]
theorem rawN_none {n : Nat} {l : Bt} (h : l.length ≤ n) (h0 : l ≠ []) (hi : Lib.indexByte l 10 = -1) : rawN n l = l :: rawN n [] := by
  cases n with
  | zero => exact absurd (List.eq_nil_of_length_eq_zero (Nat.le_zero.1 h)) h0
  | succ n =>
    rw [rawN_nil]
    unfold rawN
    rw [if_neg h0, if_pos hi]
theorem rawN_some {n i : Nat} {l : Bt} (h : l.length ≤ n + 1) (hi : Lib.indexByte l 10 = i) : rawN (n + 1) l = l.take (i + 1) :: rawN n (l.drop (i + 1)) := by
  obtain ⟨h1, _⟩ := idx_some hi
  have h0 : l ≠ [] := by rintro rfl; simp at h1
  conv => lhs; unfold rawN
  rw [if_neg h0, if_neg (by omega), hi]
  simp
def rawL (l : Bt) : List Bt := rawN l.length l
theorem rawN_trim : ∀ (n : Nat) (l : Bt), l.length ≤ n → (rawN n l).map (fun x => Lib.trimSuffix x [10]) = linesT l
  | 0, l, h => by
    obtain rfl := List.eq_nil_of_length_eq_zero (Nat.le_zero.1 h)
    rfl
  | n + 1, l, h => by
    by_cases h0 : l = []
    · subst h0; rw [rawN_nil]; rfl
    rcases idx_cases l 10 with hi | ⟨i, hi⟩
    · rw [rawN_none h h0 hi, rawN_nil]
      rw [linesT_last h0 (idx_none hi)]
      simp only [List.map_cons, List.map_nil, trim_none (idx_none hi)]
    · rw [rawN_some h hi]
      obtain ⟨h1, e, hno⟩ := idx_some hi
      have e2 : l.take (i + 1) = l.take i ++ [10] := by
        rw [List.take_add_one]
        congr 1
        have : l[i]? = some 10 := (Lib.indexByte_some hi).1
        rw [this]; rfl
      rw [List.map_cons, e2, trim_end, rawN_trim n _ (by rw [List.length_drop]; omega)]
      conv => rhs; rw [e]
      exact (linesT_cons _ hno).symm
theorem rawL_trim (l : Bt) : (rawL l).map (fun x => Lib.trimSuffix x [10]) = linesT l := rawN_trim _ l (Nat.le_refl _)
theorem rawN_len : ∀ (n : Nat) (l : Bt), (rawN n l).length ≤ n ∧ ∀ x ∈ rawN n l, x.length ≤ l.length
  | 0, l => by simp [rawN]
  | n + 1, l => by
    unfold rawN
    split
    · simp
    · split
      · simp
      · obtain ⟨h1, h2⟩ := rawN_len n (l.drop ((Lib.indexByte l 10).toNat + 1))
        refine ⟨by simp; omega, fun x hx => ?_⟩
        rcases List.mem_cons.1 hx with rfl | hx
        · rw [List.length_take]; omega
        · have := h2 x hx
          rw [List.length_drop] at this
          omega
def encB (x : Bt) : Array Value := #[.string (Bs x)]
def boxSz (bs : Nat) (w : World) : Nat := match w.cell? ⟨bs, 0, none⟩ with
  | some (.string r) => r.size
  | _ => 0
theorem boxSz_is {bs : Nat} {w : World} {r : ByteArray} (h : w.heap[bs]? = some (.cells #[.string r] 9)) : boxSz bs w = r.size := by
  unfold boxSz
  rw [cell_of h (v := .string r) rfl]
theorem box_set {bs : Nat} {w : World} {r : ByteArray} (h : w.heap[bs]? = some (.cells #[.string r] 9)) (q : ByteArray) : (w.setCell ⟨bs, 0, none⟩ (.string q)).heap[bs]? = some (.cells #[.string q] 9) := by
  simp [World.setCell, Array.getElem?_modify, h]
end Gno
namespace Go.Proofs.YthhjgndaiimgjaaGreatDoor
open Go.RowKit Gno Go.Shelf
attribute [local go_sem] Oper.semAt_some
set_option maxHeartbeats 8000000 in
theorem lines_seq (s : ByteArray) (bs : Nat) (w : World) (hb : w.heap[bs]? = some (.cells #[.string s] 9)) (hs : s.size ≤ 100000) :
    SeqB Tryz.prog 63 #[.pointer (some ⟨bs, 0, none⟩)] encB (rawL s.data.toList) bs w := by
  intro l J Jp W hW hl hlW hJ hY h0
  have hbw := (Array.getElem?_eq_some_iff.1 hb).1
  have hbW : W.heap[bs]? = some (.cells #[.string s] 9) := (hW.block bs hbw).trans hb
  have HY := Lib.hid hY
  have HJ := Lib.hid hJ
  have HB0 := Lib.hid hbW
  have HJ0 := Lib.hid h0
  have hlen : s.data.toList.length = s.size := Array.length_toList
  have HR0 : Hid (rawL s.data.toList = [] ++ rawN s.size s.data.toList) := Lib.hid (by unfold rawL; rw [hlen]; rfl)
  have HI := Lib.hid fun (r : ByteArray) w => idxP_any r w
  clear hY hJ hb hbW h0 hlen
  refine callsIn_of_wp Tryz.func63 rfl trivial ?_ rfl
  simp only [Tryz.ntmps63, List.size_toArray, List.length_cons, List.length_nil, Nat.reduceAdd, Nat.reduceSub, Array.replicate_succ, Array.replicate_zero, List.push_toArray, List.append_toArray, List.nil_append, List.cons_append]
  gi_wp2
  gi_loopw [3] (fun b3 wr => ∃ (r : ByteArray) (pre : List Bt) (n : Nat), r.size ≤ n ∧ r.size ≤ 100000 ∧ Hid (rawL s.data.toList = pre ++ rawN n r.data.toList) ∧ Hid (J pre wr) ∧ Hid (wr.heap[bs]? = some (.cells #[.string r] 9)) ∧ W.heap.size ≤ wr.heap.size) (fun _ wr => boxSz bs wr)
  case atStart => exact ⟨s, [], s.size, Nat.le_refl _, hs, HR0, HJ0, HB0, Nat.le_refl _⟩
  case round =>
    clear HR0 HJ0 HB0
    obtain ⟨r, pre, n, hn, hr, hR, hj, hbx, hz⟩ := hrel
    have c0 : wr.cell? ⟨bs, 0, none⟩ = some (.string r) := cell_of hbx.out rfl
    have f0 : wr.frozen? ⟨bs, 0, none⟩ = false := frozen_of hbx.out
    have hrl : r.data.toList.length = r.size := Array.length_toList
    by_cases h0 : r.size = 0
    · have HX : Hid (rawL s.data.toList = pre) := Lib.hid (by
        rw [hR.out, List.eq_nil_of_length_eq_zero (hrl.trans h0), rawN_nil, List.append_nil])
      have g1 : decide ((0 : Int) < (r.size : Int)) = false := decide_eq_false (by omega)
      gi_wp2
      go_end0
      exact .inl ⟨_, rfl, by rw [HX.out]; exact hj.out⟩
    · have hne : r.data.toList ≠ [] := fun e => h0 (by rw [← hrl, e]; rfl)
      have hpos : 0 < r.size := by omega
      rcases idx_cases r.data.toList 10 with hi | ⟨i, hi⟩
      · have C := Lib.hid (fun W => HI.out r W)
        rw [hi] at C
        have HS : Hid (rawL s.data.toList = pre ++ r.data.toList :: rawN n []) := Lib.hid (by rw [hR.out, rawN_none (by omega) hne hi])
        have hV : (wr.setCell ⟨bs, 0, none⟩ (.string ⟨#[]⟩)).heap[bs]? = some (.cells #[.string ⟨#[]⟩] 9) := box_set hbx.out _
        have HV := Lib.hid hV
        have hJV : J pre (wr.setCell ⟨bs, 0, none⟩ (.string ⟨#[]⟩)) := HJ.out _ _ _ hj.out (Kp.setCell (S := fun k => k = bs) (Kp.refl _ _) rfl _)
        obtain ⟨fn, tmps, assign, body, hy, hYR⟩ := HY.out pre r.data.toList (rawN n []) (wr.setCell ⟨bs, 0, none⟩ (.string ⟨#[]⟩)) HS.out hJV (by simp; omega) ⟨_, hV⟩
        dsimp only [encB] at hy
        rw [Bs_list] at hy
        have HYR := Lib.hid hYR
        have HMS : Hid (boxSz bs wr = r.size) := Lib.hid (boxSz_is hbx.out)
        have HSN : Hid (rawL s.data.toList = (pre ++ [r.data.toList]) ++ rawN n []) := Lib.hid (by rw [HS.out]; simp)
        clear hi hV hJV hYR hrl hne
        gi_wp2_with (refine ⟨trivial, ?_⟩; gi_at_call 64; (with_reducible refine (callsIn_wide.2 (C.out _)).mono ?_); rintro e w1 ⟨rfl, rfl⟩)
        refine HYR.out.mono ?_
        rintro e W3 (⟨rfl, hj3, hb3, hz3⟩ | ⟨ch, rfl, hjp⟩)
        · have HB3 : Hid (W3.heap[bs]? = some (.cells #[.string ⟨#[]⟩] 9)) := Lib.hid (hb3.trans HV.out)
          have hms : boxSz bs W3 < boxSz bs wr := by rw [HMS.out, boxSz_is HB3.out]; exact hpos
          have HJ3 := Lib.hid hj3
          have hz4 : W.heap.size ≤ W3.heap.size := by simp at hz3; omega
          clear hb3 hj3 hy hz3
          gi_wp2
          go_roundw
          case rel => exact ⟨⟨#[]⟩, _, n, Nat.zero_le _, Nat.zero_le _, HSN, HJ3, HB3, hz4⟩
          case measure => exact hms
        · gi_wp2
          exact ⟨rfl, .inr ⟨ch, rfl, hjp⟩⟩
      · obtain ⟨m, rfl⟩ : ∃ m, n = m + 1 := ⟨n - 1, by omega⟩
        have hil := (idx_some hi).1
        rw [hrl] at hil
        have C := Lib.hid (fun W => HI.out r W)
        rw [hi] at C
        obtain ⟨q, hq⟩ : ∃ q, q = r.extract (i + 1) r.size := ⟨_, rfl⟩
        obtain ⟨a, ha⟩ : ∃ a, a = r.extract 0 (i + 1) := ⟨_, rfl⟩
        have hql : q.data.toList = r.data.toList.drop (i + 1) := by
          rw [hq, ← Lib.toList_data, Lib.extract_toList, List.take_of_length_le]
          rw [List.length_drop, hrl]; omega
        have hal : a.data.toList = r.data.toList.take (i + 1) := by
          rw [ha, ← Lib.toList_data, Lib.extract_toList, List.drop_zero, Nat.sub_zero]
        have hqs : q.size = r.size - (i + 1) := by
          have h1 : q.data.toList.length = q.size := Array.length_toList
          rw [← h1, hql, List.length_drop, hrl]
        have HS : Hid (rawL s.data.toList = pre ++ a.data.toList :: rawN m q.data.toList) := Lib.hid (by rw [hR.out, rawN_some (by omega) hi, hal, hql])
        have hV : (wr.setCell ⟨bs, 0, none⟩ (.string q)).drew.heap[bs]? = some (.cells #[.string q] 9) := box_set (w := wr) hbx.out _
        have HV := Lib.hid hV
        have hJV : J pre (wr.setCell ⟨bs, 0, none⟩ (.string q)).drew := HJ.out _ _ _ (HJ.out _ _ _ hj.out (Kp.setCell (S := fun k => k = bs) (Kp.refl _ _) rfl _)) (Kp.of_below (Below.refl _ _).drew)
        obtain ⟨fn, tmps, assign, body, hy, hYR⟩ := HY.out pre a.data.toList (rawN m q.data.toList) (wr.setCell ⟨bs, 0, none⟩ (.string q)).drew HS.out hJV (by simp; omega) ⟨_, hV⟩
        dsimp only [encB] at hy
        rw [Bs_list] at hy
        have HYR := Lib.hid hYR
        have HMS : Hid (boxSz bs wr = r.size) := Lib.hid (boxSz_is hbx.out)
        have HSN : Hid (rawL s.data.toList = (pre ++ [a.data.toList]) ++ rawN m q.data.toList) := Lib.hid (by rw [HS.out]; simp)
        have HA := Lib.hid ha
        have HQ := Lib.hid hq
        have hqr : q.size < r.size := by omega
        clear hi hV hJV hYR hrl hne hql hal ha hq
        gi_wp2_with (refine ⟨trivial, ?_⟩; gi_at_call 64; (with_reducible refine (callsIn_wide.2 (C.out _)).mono ?_); rintro e w1 ⟨rfl, rfl⟩)
        have c1 : wr.drew.cell? ⟨bs, 0, none⟩ = some (.string r) := c0
        have f1 : wr.drew.frozen? ⟨bs, 0, none⟩ = false := f0
        clear c0 f0
        have hi0 : (0 : Int) ≤ (i : Int) + 1 := by omega
        have hi1 : (i : Int) + 1 ≤ (r.size : Int) := by omega
        refine wpIn_wide.2 ?_
        go_region
        rw [← HA.out, ← HQ.out]
        gi_wp2
        refine HYR.out.mono ?_
        rintro e W3 (⟨rfl, hj3, hb3, hz3⟩ | ⟨ch, rfl, hjp⟩)
        · have HB3 : Hid (W3.heap[bs]? = some (.cells #[.string q] 9)) := Lib.hid (hb3.trans HV.out)
          have hms : boxSz bs W3 < boxSz bs wr := by rw [HMS.out, boxSz_is HB3.out]; exact hqr
          have HJ3 := Lib.hid hj3
          have hz4 : W.heap.size ≤ W3.heap.size := Nat.le_trans hz (by simpa using hz3)
          clear hb3 hj3 hy hz3
          gi_wp2
          go_roundw
          case rel => exact ⟨q, _, m, by omega, by omega, HSN, HJ3, HB3, hz4⟩
          case measure => exact hms
        · gi_wp2
          exact ⟨rfl, .inr ⟨ch, rfl, hjp⟩⟩
end Go.Proofs.YthhjgndaiimgjaaGreatDoor
end
