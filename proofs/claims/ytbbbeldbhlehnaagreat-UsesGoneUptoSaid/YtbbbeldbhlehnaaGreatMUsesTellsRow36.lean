/- Parts of a proof, laid together. -/
import Derived.Deep.QuietTactic
import Derived.BigQuiet
import Derived.Laws.EntriesVeiled
import Derived.StillTailTactics
import Derived.Test.YtbbbeldbhlehnaaGreatMUsesTellsRow35
import Derived.Test.YtbbbeldbhlehnaaGreatMUsesTellsRow31
import Derived.Test.YtbbbeldbhlehnaaGreatMUsesTellsRow18
set_option linter.unusedSimpArgs false
set_option linter.unusedVariables false
/-! uses.Check. -/
section
set_option linter.unusedVariables false
set_option linter.unusedSimpArgs false
namespace Gno
open Go
theorem hasP_app {α : Type} {p : α → Bool} {l : List α} {b : Bool} (h : hasP p l = b) : hasP p l = b := h
theorem usesE_data {d : Dt} {l : List Us} (h : dataE d ≠ 0) : usesE d l = dataE d := by unfold usesE; rw [if_pos h]
theorem usesE_many {d : Dt} {l : List Us} (h : dataE d = 0) (h1 : 10 < l.length) : usesE d l = 2 := by unfold usesE; rw [if_neg (by simp [h]), if_pos h1]
theorem usesE_mt {d : Dt} {l : List Us} (h : dataE d = 0) (h1 : ¬ 10 < l.length) (h2 : hasP badMt l = true) : usesE d l = 5 := by unfold usesE; rw [if_neg (by simp [h]), if_neg h1, if_pos h2]
theorem usesE_zone {d : Dt} {l : List Us} (h : dataE d = 0) (h1 : ¬ 10 < l.length) (h2 : hasP badMt l = false) (h3 : hasP (noZone d) l = true) : usesE d l = 4 := by unfold usesE; rw [if_neg (by simp [h]), if_neg h1, if_neg (by simp [h2]), if_pos h3]
theorem usesE_use {d : Dt} {l : List Us} (h : dataE d = 0) (h1 : ¬ 10 < l.length) (h2 : hasP badMt l = false) (h3 : hasP (noZone d) l = false) (h4 : hasP badUse l = true) : usesE d l = 3 := by unfold usesE; rw [if_neg (by simp [h]), if_neg h1, if_neg (by simp [h2]), if_neg (by simp [h3]), if_pos h4]
theorem usesE_over {d : Dt} {l : List Us} (h : dataE d = 0) (h1 : ¬ 10 < l.length) (h2 : hasP badMt l = false) (h3 : hasP (noZone d) l = false) (h4 : hasP badUse l = false) : usesE d l = if overU l = true then 6 else 0 := by unfold usesE; rw [if_neg (by simp [h]), if_neg h1, if_neg (by simp [h2]), if_neg (by simp [h3]), if_neg (by simp [h4])]
theorem next_at {s : List Us} {j : Nat} {p u : Us} (hp : s[j]? = some p) : nextU s (j + 1) u = (same p.zone u.zone && decide (u.fr < p.til)) := by unfold nextU; simp only [hp]
end Gno
namespace Go.Proofs.YtbbbeldbhlehnaaGreat
open Go.RowKit Gno
/-- behind the closure's box: all that came in is as it was. -/
theorem ck_ctx {d : Dt} {A : Option Addr} {n : Nat} {l : List Us} {w w1 W : World} {fv : Value} {T : TypeId} (hD : DataAt w w.heap.size d) (hU : UsesAt w w.heap.size A n l)
    (h1 : Below (w.heap.size + 1) (w.alloc (Dobj d)) w1) (hb : Below (w1.heap.size + 1) (w1.alloc (.cells #[fv] T)) W) :
    Below w.heap.size w W ∧ DataAt W W.heap.size d ∧ UsesAt W W.heap.size A n l ∧ W.cell? ⟨w.heap.size, 1, none⟩ = some (.slice d.zA d.zn d.zc) ∧ W.cell? ⟨w1.heap.size, 0, none⟩ = some fv ∧ W.cell? ⟨w.heap.size, 0, none⟩ = some (.slice d.sA d.sn d.sc) ∧ W.cell? ⟨w.heap.size, 2, none⟩ = some (.slice d.lA d.ln d.lc) := by
  have hz := h1.size
  simp at hz
  have k1 : (w.alloc (Dobj d)).heap[w.heap.size]? = some (Dobj d) := World.alloc_heap_new w _
  have h2 : Below (w.heap.size + 1) (w.alloc (Dobj d)) W := (h1.alloc (by omega) _).trans (hb.mono (by omega))
  have k2 := (h2.block w.heap.size (by omega)).trans k1
  have k3 := (hb.block w1.heap.size (by omega)).trans (World.alloc_heap_new w1 _)
  have h3 : Below w.heap.size w W := ((Below.refl w.heap.size w).alloc (Nat.le_refl _) (Dobj d)).trans (h2.mono (by omega))
  unfold Dobj at k2
  exact ⟨h3, hD.next h3, hU.next h3, cell_ofU k2 rfl, cell_ofU k3 rfl, cell_ofU k2 rfl, cell_ofU k2 rfl⟩
set_option maxRecDepth 100000 in
set_option maxHeartbeats 8000000 in
theorem usesCk_data (d : Dt) (A : Option Addr) (n cap : Nat) (l : List Us) (w : World) (hD : DataAt w w.heap.size d) (hM : MaxAt w w.heap.size) (hU : UsesAt w w.heap.size A n l) (he : dataE d ≠ 0) :
    Calls Tryz.prog 11 #[d.val, .slice A n cap] w fun e w' => e = .returned (.int .i64 (usesE d l)) ∧ Below w.heap.size w w' := by
  have hmf : ∀ (fn : Fn) (first cap : Array Value) (w : World), (Instr.makeFunc fn first cap).run Tryz.prog w = .ok (.func fn first cap) w := fun _ _ _ _ => rfl
  have hnl : n ≤ 9223372036854775807 := hU.2.1
  have hlen : l.length = n := hU.1
  have HLE := Lib.hid hlen
  have CD : Hid (Calls Tryz.prog 27 #[.agg #[.slice d.sA d.sn d.sc, .slice d.zA d.zn d.zc, .slice d.lA d.ln d.lc]] (w.alloc (Dobj d)) fun e w' => e = .returned (.int .i64 (dataE d)) ∧ Below (w.heap.size + 1) (w.alloc (Dobj d)) w') := Lib.hid (by
    have hb1 : Below w.heap.size w (w.alloc (Dobj d)) := (Below.refl _ _).alloc (Nat.le_refl _) _
    have := check_any d (w.alloc (Dobj d)) (hD.next hb1) (hM.next hb1)
    
    have e9 : (w.alloc (Dobj d)).heap.size = w.heap.size + 1 := by simp
    rwa [e9] at this)
  have HE : Hid (usesE d l = dataE d) := Lib.hid (usesE_data he)
  obtain ⟨E, hE⟩ : ∃ E, E = dataE d := ⟨_, rfl⟩
  rw [← hE] at CD HE he
  have e1 : (E != 0) = true := by simpa using he
  have e2 : (E == 0) = false := by simpa using he
  clear hD hM hU he hE hlen
  unfold Dt.val
  go_enter Tryz.func11, Tryz.ntmps11
  go_wp2_with fail
  refine CD.out.mono ?_
  rintro e w1 ⟨rfl, hw1⟩
  have HW1 := Lib.hid hw1
  clear hw1
  go_wp2
  go_ret
  exact ⟨ret_int HE.out.symm, ((Below.refl w.heap.size w).alloc (Nat.le_refl _) _).trans (HW1.out.mono (by omega))⟩
set_option maxRecDepth 100000 in
set_option maxHeartbeats 8000000 in
theorem usesCk_many (d : Dt) (A : Option Addr) (n cap : Nat) (l : List Us) (w : World) (hD : DataAt w w.heap.size d) (hM : MaxAt w w.heap.size) (hU : UsesAt w w.heap.size A n l) (he : dataE d = 0) (h1 : 10 < n) :
    Calls Tryz.prog 11 #[d.val, .slice A n cap] w fun e w' => e = .returned (.int .i64 (usesE d l)) ∧ Below w.heap.size w w' := by
  have hmf : ∀ (fn : Fn) (first cap : Array Value) (w : World), (Instr.makeFunc fn first cap).run Tryz.prog w = .ok (.func fn first cap) w := fun _ _ _ _ => rfl
  have hnl : n ≤ 9223372036854775807 := hU.2.1
  have hlen : l.length = n := hU.1
  have HLE := Lib.hid hlen
  have CD : Hid (Calls Tryz.prog 27 #[.agg #[.slice d.sA d.sn d.sc, .slice d.zA d.zn d.zc, .slice d.lA d.ln d.lc]] (w.alloc (Dobj d)) fun e w' => e = .returned (.int .i64 0) ∧ Below (w.heap.size + 1) (w.alloc (Dobj d)) w') := Lib.hid (by
    have hb1 : Below w.heap.size w (w.alloc (Dobj d)) := (Below.refl _ _).alloc (Nat.le_refl _) _
    have := check_any d (w.alloc (Dobj d)) (hD.next hb1) (hM.next hb1)
    rw [he] at this
    have e9 : (w.alloc (Dobj d)).heap.size = w.heap.size + 1 := by simp
    rwa [e9] at this)
  have HE : Hid (usesE d l = 2) := Lib.hid (usesE_many he (by omega))
  have d10 : decide ((10 : Int) < (n : Int)) = true := decide_eq_true (by omega)
  clear hD hM hU he h1 hlen
  unfold Dt.val
  go_enter Tryz.func11, Tryz.ntmps11
  go_wp2_with fail
  refine CD.out.mono ?_
  rintro e w1 ⟨rfl, hw1⟩
  have HW1 := Lib.hid hw1
  have hx : Below (w1.heap.size + 1) (w1.alloc (.cells #[.func (.func 28) #[] #[.pointer (some ⟨w.heap.size, 0, none⟩)]] 57)) (w1.alloc (.cells #[.func (.func 28) #[] #[.pointer (some ⟨w.heap.size, 0, none⟩)]] 57)) := Below.refl _ _
  have HX := Lib.hid hx
  clear hw1 hx
  go_wp2_with fail
  go_ret
  exact ⟨ret_int HE.out.symm, ((Below.refl w.heap.size w).alloc (Nat.le_refl _) _).trans ((HW1.out.alloc (by have := HW1.out.size; simpa using this) _).mono (by omega))⟩
set_option maxRecDepth 100000 in
set_option maxHeartbeats 8000000 in
theorem usesCk_mt (d : Dt) (A : Option Addr) (n cap : Nat) (l : List Us) (w : World) (hD : DataAt w w.heap.size d) (hM : MaxAt w w.heap.size) (hU : UsesAt w w.heap.size A n l) (he : dataE d = 0) (h1 : ¬ 10 < n) (h2 : hasP badMt l = true) :
    Calls Tryz.prog 11 #[d.val, .slice A n cap] w fun e w' => e = .returned (.int .i64 (usesE d l)) ∧ Below w.heap.size w w' := by
  have hmf : ∀ (fn : Fn) (first cap : Array Value) (w : World), (Instr.makeFunc fn first cap).run Tryz.prog w = .ok (.func fn first cap) w := fun _ _ _ _ => rfl
  have hnl : n ≤ 9223372036854775807 := hU.2.1
  have hlen : l.length = n := hU.1
  have HLE := Lib.hid hlen
  have CD : Hid (Calls Tryz.prog 27 #[.agg #[.slice d.sA d.sn d.sc, .slice d.zA d.zn d.zc, .slice d.lA d.ln d.lc]] (w.alloc (Dobj d)) fun e w' => e = .returned (.int .i64 0) ∧ Below (w.heap.size + 1) (w.alloc (Dobj d)) w') := Lib.hid (by
    have hb1 : Below w.heap.size w (w.alloc (Dobj d)) := (Below.refl _ _).alloc (Nat.le_refl _) _
    have := check_any d (w.alloc (Dobj d)) (hD.next hb1) (hM.next hb1)
    rw [he] at this
    have e9 : (w.alloc (Dobj d)).heap.size = w.heap.size + 1 := by simp
    rwa [e9] at this)
  have HE : Hid (usesE d l = 5) := Lib.hid (usesE_mt he (by omega) h2)
  have d10 : decide ((10 : Int) < (n : Int)) = false := decide_eq_false (by omega)
  have CX := Lib.hid (fun w1 W fv T h1 hb => ck_ctx (d := d) (A := A) (n := n) (l := l) (w := w) (w1 := w1) (W := W) (fv := fv) (T := T) hD hU h1 hb)
  have HSZ : Hid (∀ u ∈ l, u.mt.size ≤ maxLen) := Lib.hid (fun u hu => by
    obtain ⟨i, hi⟩ := List.getElem?_of_mem hu
    obtain ⟨_, _, q, _, _, hq, _, hq2, _⟩ := uses_get hU (i := i) (by rw [← hlen]; exact (List.getElem?_eq_some_iff.1 hi).1)
    rw [hi] at hq
    injection hq with hq
    rw [hq]; exact hq2)
  have C1 : Hid (∀ w1 W, Below (w.heap.size + 1) (w.alloc (Dobj d)) w1 → Below (w1.heap.size + 1) (w1.alloc (.cells #[.func (.func 28) #[] #[.pointer (some ⟨w.heap.size, 0, none⟩)]] 57)) W → Calls Tryz.prog 31 #[.slice A n cap, .func (.func 32) #[] #[]] W fun e w' => e = .returned (.bool true) ∧ Below W.heap.size W w') := Lib.hid (fun w1 W hw1 hb => by
    have := containsUse_any 32 #[] (enters_of Tryz.func32 (by kernel_rfl) rfl) badMt A n cap l W (CX.out w1 W _ _ hw1 hb).2.2.1 (fun W2 u hu _ => badMt_any u W2 (HSZ.out u hu))
    rwa [h2] at this)
  clear hD hM hU he h1 h2 hlen
  unfold Dt.val
  go_enter Tryz.func11, Tryz.ntmps11
  go_wp2_with fail
  refine CD.out.mono ?_
  rintro e w1 ⟨rfl, hw1⟩
  have HW1 := Lib.hid hw1
  have hx : Below (w1.heap.size + 1) (w1.alloc (.cells #[.func (.func 28) #[] #[.pointer (some ⟨w.heap.size, 0, none⟩)]] 57)) (w1.alloc (.cells #[.func (.func 28) #[] #[.pointer (some ⟨w.heap.size, 0, none⟩)]] 57)) := Below.refl _ _
  have HX := Lib.hid hx
  clear hw1 hx
  go_wp2_with fail
  refine (C1.out _ _ HW1.out HX.out).mono ?_
  rintro e v1 ⟨rfl, hv1⟩
  replace HX := Lib.hid (HX.out.trans (hv1.mono (by have h9 := HX.out.size; first | omega | (simp at h9; omega) | simp)))
  clear hv1
  go_wp2_with fail
  go_ret
  exact ⟨ret_int HE.out.symm, (CX.out _ _ _ _ HW1.out HX.out).1⟩
set_option maxRecDepth 100000 in
set_option maxHeartbeats 8000000 in
theorem usesCk_zone (d : Dt) (A : Option Addr) (n cap : Nat) (l : List Us) (w : World) (hD : DataAt w w.heap.size d) (hM : MaxAt w w.heap.size) (hU : UsesAt w w.heap.size A n l) (he : dataE d = 0) (h1 : ¬ 10 < n) (h2 : hasP badMt l = false) (h3 : hasP (noZone d) l = true) :
    Calls Tryz.prog 11 #[d.val, .slice A n cap] w fun e w' => e = .returned (.int .i64 (usesE d l)) ∧ Below w.heap.size w w' := by
  have hmf : ∀ (fn : Fn) (first cap : Array Value) (w : World), (Instr.makeFunc fn first cap).run Tryz.prog w = .ok (.func fn first cap) w := fun _ _ _ _ => rfl
  have hnl : n ≤ 9223372036854775807 := hU.2.1
  have hlen : l.length = n := hU.1
  have HLE := Lib.hid hlen
  have CD : Hid (Calls Tryz.prog 27 #[.agg #[.slice d.sA d.sn d.sc, .slice d.zA d.zn d.zc, .slice d.lA d.ln d.lc]] (w.alloc (Dobj d)) fun e w' => e = .returned (.int .i64 0) ∧ Below (w.heap.size + 1) (w.alloc (Dobj d)) w') := Lib.hid (by
    have hb1 : Below w.heap.size w (w.alloc (Dobj d)) := (Below.refl _ _).alloc (Nat.le_refl _) _
    have := check_any d (w.alloc (Dobj d)) (hD.next hb1) (hM.next hb1)
    rw [he] at this
    have e9 : (w.alloc (Dobj d)).heap.size = w.heap.size + 1 := by simp
    rwa [e9] at this)
  have HE : Hid (usesE d l = 4) := Lib.hid (usesE_zone he (by omega) h2 h3)
  have d10 : decide ((10 : Int) < (n : Int)) = false := decide_eq_false (by omega)
  have CX := Lib.hid (fun w1 W fv T h1 hb => ck_ctx (d := d) (A := A) (n := n) (l := l) (w := w) (w1 := w1) (W := W) (fv := fv) (T := T) hD hU h1 hb)
  have HSZ : Hid (∀ u ∈ l, u.mt.size ≤ maxLen) := Lib.hid (fun u hu => by
    obtain ⟨i, hi⟩ := List.getElem?_of_mem hu
    obtain ⟨_, _, q, _, _, hq, _, hq2, _⟩ := uses_get hU (i := i) (by rw [← hlen]; exact (List.getElem?_eq_some_iff.1 hi).1)
    rw [hi] at hq
    injection hq with hq
    rw [hq]; exact hq2)
  have C1 : Hid (∀ w1 W, Below (w.heap.size + 1) (w.alloc (Dobj d)) w1 → Below (w1.heap.size + 1) (w1.alloc (.cells #[.func (.func 28) #[] #[.pointer (some ⟨w.heap.size, 0, none⟩)]] 57)) W → Calls Tryz.prog 31 #[.slice A n cap, .func (.func 32) #[] #[]] W fun e w' => e = .returned (.bool false) ∧ Below W.heap.size W w') := Lib.hid (fun w1 W hw1 hb => by
    have := containsUse_any 32 #[] (enters_of Tryz.func32 (by kernel_rfl) rfl) badMt A n cap l W (CX.out w1 W _ _ hw1 hb).2.2.1 (fun W2 u hu _ => badMt_any u W2 (HSZ.out u hu))
    rwa [h2] at this)
  have C2 : Hid (∀ w1 W, Below (w.heap.size + 1) (w.alloc (Dobj d)) w1 → Below (w1.heap.size + 1) (w1.alloc (.cells #[.func (.func 28) #[] #[.pointer (some ⟨w.heap.size, 0, none⟩)]] 57)) W → Calls Tryz.prog 31 #[.slice A n cap, .func (.func 33) #[] #[.pointer (some ⟨w1.heap.size, 0, none⟩)]] W fun e w' => e = .returned (.bool true) ∧ Below W.heap.size W w') := Lib.hid (fun w1 W hw1 hb => by
    have := containsUse_any 33 #[.pointer (some ⟨w1.heap.size, 0, none⟩)] (enters_of Tryz.func33 (by kernel_rfl) rfl) (noZone d) A n cap l W (CX.out w1 W _ _ hw1 hb).2.2.1 (fun W2 u hu hb2 => by
      have hb3 := CX.out w1 W2 _ _ hw1 (hb.trans (hb2.mono (by have := hb.size; simpa using this)))
      exact noZone_any d u w.heap.size w1.heap.size W2 hb3.2.1.2.1 hb3.2.2.2.1 hb3.2.2.2.2.1)
    rwa [h3] at this)
  clear hD hM hU he h1 h2 h3 hlen
  unfold Dt.val
  go_enter Tryz.func11, Tryz.ntmps11
  go_wp2_with fail
  refine CD.out.mono ?_
  rintro e w1 ⟨rfl, hw1⟩
  have HW1 := Lib.hid hw1
  have hx : Below (w1.heap.size + 1) (w1.alloc (.cells #[.func (.func 28) #[] #[.pointer (some ⟨w.heap.size, 0, none⟩)]] 57)) (w1.alloc (.cells #[.func (.func 28) #[] #[.pointer (some ⟨w.heap.size, 0, none⟩)]] 57)) := Below.refl _ _
  have HX := Lib.hid hx
  clear hw1 hx
  go_wp2_with fail
  refine (C1.out _ _ HW1.out HX.out).mono ?_
  rintro e v1 ⟨rfl, hv1⟩
  replace HX := Lib.hid (HX.out.trans (hv1.mono (by have h9 := HX.out.size; first | omega | (simp at h9; omega) | simp)))
  clear hv1
  go_wp2_with fail
  refine (C2.out _ _ HW1.out HX.out).mono ?_
  rintro e v2 ⟨rfl, hv2⟩
  replace HX := Lib.hid (HX.out.trans (hv2.mono (by have h9 := HX.out.size; first | omega | (simp at h9; omega) | simp)))
  clear hv2
  go_wp2_with fail
  go_ret
  exact ⟨ret_int HE.out.symm, (CX.out _ _ _ _ HW1.out HX.out).1⟩
set_option maxRecDepth 100000 in
set_option maxHeartbeats 8000000 in
theorem usesCk_use (d : Dt) (A : Option Addr) (n cap : Nat) (l : List Us) (w : World) (hD : DataAt w w.heap.size d) (hM : MaxAt w w.heap.size) (hU : UsesAt w w.heap.size A n l) (he : dataE d = 0) (h1 : ¬ 10 < n) (h2 : hasP badMt l = false) (h3 : hasP (noZone d) l = false) (h4 : hasP badUse l = true) :
    Calls Tryz.prog 11 #[d.val, .slice A n cap] w fun e w' => e = .returned (.int .i64 (usesE d l)) ∧ Below w.heap.size w w' := by
  have hmf : ∀ (fn : Fn) (first cap : Array Value) (w : World), (Instr.makeFunc fn first cap).run Tryz.prog w = .ok (.func fn first cap) w := fun _ _ _ _ => rfl
  have hnl : n ≤ 9223372036854775807 := hU.2.1
  have hlen : l.length = n := hU.1
  have HLE := Lib.hid hlen
  have CD : Hid (Calls Tryz.prog 27 #[.agg #[.slice d.sA d.sn d.sc, .slice d.zA d.zn d.zc, .slice d.lA d.ln d.lc]] (w.alloc (Dobj d)) fun e w' => e = .returned (.int .i64 0) ∧ Below (w.heap.size + 1) (w.alloc (Dobj d)) w') := Lib.hid (by
    have hb1 : Below w.heap.size w (w.alloc (Dobj d)) := (Below.refl _ _).alloc (Nat.le_refl _) _
    have := check_any d (w.alloc (Dobj d)) (hD.next hb1) (hM.next hb1)
    rw [he] at this
    have e9 : (w.alloc (Dobj d)).heap.size = w.heap.size + 1 := by simp
    rwa [e9] at this)
  have HE : Hid (usesE d l = 3) := Lib.hid (usesE_use he (by omega) h2 h3 h4)
  have d10 : decide ((10 : Int) < (n : Int)) = false := decide_eq_false (by omega)
  have CX := Lib.hid (fun w1 W fv T h1 hb => ck_ctx (d := d) (A := A) (n := n) (l := l) (w := w) (w1 := w1) (W := W) (fv := fv) (T := T) hD hU h1 hb)
  have HSZ : Hid (∀ u ∈ l, u.mt.size ≤ maxLen) := Lib.hid (fun u hu => by
    obtain ⟨i, hi⟩ := List.getElem?_of_mem hu
    obtain ⟨_, _, q, _, _, hq, _, hq2, _⟩ := uses_get hU (i := i) (by rw [← hlen]; exact (List.getElem?_eq_some_iff.1 hi).1)
    rw [hi] at hq
    injection hq with hq
    rw [hq]; exact hq2)
  have C1 : Hid (∀ w1 W, Below (w.heap.size + 1) (w.alloc (Dobj d)) w1 → Below (w1.heap.size + 1) (w1.alloc (.cells #[.func (.func 28) #[] #[.pointer (some ⟨w.heap.size, 0, none⟩)]] 57)) W → Calls Tryz.prog 31 #[.slice A n cap, .func (.func 32) #[] #[]] W fun e w' => e = .returned (.bool false) ∧ Below W.heap.size W w') := Lib.hid (fun w1 W hw1 hb => by
    have := containsUse_any 32 #[] (enters_of Tryz.func32 (by kernel_rfl) rfl) badMt A n cap l W (CX.out w1 W _ _ hw1 hb).2.2.1 (fun W2 u hu _ => badMt_any u W2 (HSZ.out u hu))
    rwa [h2] at this)
  have C2 : Hid (∀ w1 W, Below (w.heap.size + 1) (w.alloc (Dobj d)) w1 → Below (w1.heap.size + 1) (w1.alloc (.cells #[.func (.func 28) #[] #[.pointer (some ⟨w.heap.size, 0, none⟩)]] 57)) W → Calls Tryz.prog 31 #[.slice A n cap, .func (.func 33) #[] #[.pointer (some ⟨w1.heap.size, 0, none⟩)]] W fun e w' => e = .returned (.bool false) ∧ Below W.heap.size W w') := Lib.hid (fun w1 W hw1 hb => by
    have := containsUse_any 33 #[.pointer (some ⟨w1.heap.size, 0, none⟩)] (enters_of Tryz.func33 (by kernel_rfl) rfl) (noZone d) A n cap l W (CX.out w1 W _ _ hw1 hb).2.2.1 (fun W2 u hu hb2 => by
      have hb3 := CX.out w1 W2 _ _ hw1 (hb.trans (hb2.mono (by have := hb.size; simpa using this)))
      exact noZone_any d u w.heap.size w1.heap.size W2 hb3.2.1.2.1 hb3.2.2.2.1 hb3.2.2.2.2.1)
    rwa [h3] at this)
  have C3 : Hid (∀ w1 W, Below (w.heap.size + 1) (w.alloc (Dobj d)) w1 → Below (w1.heap.size + 1) (w1.alloc (.cells #[.func (.func 28) #[] #[.pointer (some ⟨w.heap.size, 0, none⟩)]] 57)) W → Calls Tryz.prog 31 #[.slice A n cap, .func (.func 34) #[] #[]] W fun e w' => e = .returned (.bool true) ∧ Below W.heap.size W w') := Lib.hid (fun w1 W hw1 hb => by
    have := containsUse_any 34 #[] (enters_of Tryz.func34 (by kernel_rfl) rfl) badUse A n cap l W (CX.out w1 W _ _ hw1 hb).2.2.1 (fun W2 u hu _ => badUse_any u W2)
    rwa [h4] at this)
  clear hD hM hU he h1 h2 h3 h4 hlen
  unfold Dt.val
  go_enter Tryz.func11, Tryz.ntmps11
  go_wp2_with fail
  refine CD.out.mono ?_
  rintro e w1 ⟨rfl, hw1⟩
  have HW1 := Lib.hid hw1
  have hx : Below (w1.heap.size + 1) (w1.alloc (.cells #[.func (.func 28) #[] #[.pointer (some ⟨w.heap.size, 0, none⟩)]] 57)) (w1.alloc (.cells #[.func (.func 28) #[] #[.pointer (some ⟨w.heap.size, 0, none⟩)]] 57)) := Below.refl _ _
  have HX := Lib.hid hx
  clear hw1 hx
  go_wp2_with fail
  refine (C1.out _ _ HW1.out HX.out).mono ?_
  rintro e v1 ⟨rfl, hv1⟩
  replace HX := Lib.hid (HX.out.trans (hv1.mono (by have h9 := HX.out.size; first | omega | (simp at h9; omega) | simp)))
  clear hv1
  go_wp2_with fail
  refine (C2.out _ _ HW1.out HX.out).mono ?_
  rintro e v2 ⟨rfl, hv2⟩
  replace HX := Lib.hid (HX.out.trans (hv2.mono (by have h9 := HX.out.size; first | omega | (simp at h9; omega) | simp)))
  clear hv2
  go_wp2_with fail
  refine (C3.out _ _ HW1.out HX.out).mono ?_
  rintro e v3 ⟨rfl, hv3⟩
  replace HX := Lib.hid (HX.out.trans (hv3.mono (by have h9 := HX.out.size; first | omega | (simp at h9; omega) | simp)))
  clear hv3
  go_wp2_with fail
  go_ret
  exact ⟨ret_int HE.out.symm, (CX.out _ _ _ _ HW1.out HX.out).1⟩
set_option maxRecDepth 100000 in
set_option maxHeartbeats 8000000 in
theorem usesCk_rest (d : Dt) (A : Option Addr) (n cap : Nat) (l : List Us) (w : World) (hD : DataAt w w.heap.size d) (hM : MaxAt w w.heap.size) (hU : UsesAt w w.heap.size A n l) (he : dataE d = 0) (h1 : ¬ 10 < n) (h2 : hasP badMt l = false) (h3 : hasP (noZone d) l = false) (h4 : hasP badUse l = false) :
    Calls Tryz.prog 11 #[d.val, .slice A n cap] w fun e w' => e = .returned (.int .i64 (usesE d l)) ∧ Below w.heap.size w w' := by
  have hmf : ∀ (fn : Fn) (first cap : Array Value) (w : World), (Instr.makeFunc fn first cap).run Tryz.prog w = .ok (.func fn first cap) w := fun _ _ _ _ => rfl
  have hnl : n ≤ 9223372036854775807 := hU.2.1
  have hlen : l.length = n := hU.1
  have HLE := Lib.hid hlen
  have CD : Hid (Calls Tryz.prog 27 #[.agg #[.slice d.sA d.sn d.sc, .slice d.zA d.zn d.zc, .slice d.lA d.ln d.lc]] (w.alloc (Dobj d)) fun e w' => e = .returned (.int .i64 0) ∧ Below (w.heap.size + 1) (w.alloc (Dobj d)) w') := Lib.hid (by
    have hb1 : Below w.heap.size w (w.alloc (Dobj d)) := (Below.refl _ _).alloc (Nat.le_refl _) _
    have := check_any d (w.alloc (Dobj d)) (hD.next hb1) (hM.next hb1)
    rw [he] at this
    have e9 : (w.alloc (Dobj d)).heap.size = w.heap.size + 1 := by simp
    rwa [e9] at this)
  have HE : Hid (usesE d l = if overU l = true then 6 else 0) := Lib.hid (usesE_over he (by omega) h2 h3 h4)
  have HB4 : Hid (hasP badUse l = false) := Lib.hid h4
  have d10 : decide ((10 : Int) < (n : Int)) = false := decide_eq_false (by omega)
  have CX := Lib.hid (fun w1 W fv T h1 hb => ck_ctx (d := d) (A := A) (n := n) (l := l) (w := w) (w1 := w1) (W := W) (fv := fv) (T := T) hD hU h1 hb)
  have HSZ : Hid (∀ u ∈ l, u.mt.size ≤ maxLen) := Lib.hid (fun u hu => by
    obtain ⟨i, hi⟩ := List.getElem?_of_mem hu
    obtain ⟨_, _, q, _, _, hq, _, hq2, _⟩ := uses_get hU (i := i) (by rw [← hlen]; exact (List.getElem?_eq_some_iff.1 hi).1)
    rw [hi] at hq
    injection hq with hq
    rw [hq]; exact hq2)
  have C1 : Hid (∀ w1 W, Below (w.heap.size + 1) (w.alloc (Dobj d)) w1 → Below (w1.heap.size + 1) (w1.alloc (.cells #[.func (.func 28) #[] #[.pointer (some ⟨w.heap.size, 0, none⟩)]] 57)) W → Calls Tryz.prog 31 #[.slice A n cap, .func (.func 32) #[] #[]] W fun e w' => e = .returned (.bool false) ∧ Below W.heap.size W w') := Lib.hid (fun w1 W hw1 hb => by
    have := containsUse_any 32 #[] (enters_of Tryz.func32 (by kernel_rfl) rfl) badMt A n cap l W (CX.out w1 W _ _ hw1 hb).2.2.1 (fun W2 u hu _ => badMt_any u W2 (HSZ.out u hu))
    rwa [h2] at this)
  have C2 : Hid (∀ w1 W, Below (w.heap.size + 1) (w.alloc (Dobj d)) w1 → Below (w1.heap.size + 1) (w1.alloc (.cells #[.func (.func 28) #[] #[.pointer (some ⟨w.heap.size, 0, none⟩)]] 57)) W → Calls Tryz.prog 31 #[.slice A n cap, .func (.func 33) #[] #[.pointer (some ⟨w1.heap.size, 0, none⟩)]] W fun e w' => e = .returned (.bool false) ∧ Below W.heap.size W w') := Lib.hid (fun w1 W hw1 hb => by
    have := containsUse_any 33 #[.pointer (some ⟨w1.heap.size, 0, none⟩)] (enters_of Tryz.func33 (by kernel_rfl) rfl) (noZone d) A n cap l W (CX.out w1 W _ _ hw1 hb).2.2.1 (fun W2 u hu hb2 => by
      have hb3 := CX.out w1 W2 _ _ hw1 (hb.trans (hb2.mono (by have := hb.size; simpa using this)))
      exact noZone_any d u w.heap.size w1.heap.size W2 hb3.2.1.2.1 hb3.2.2.2.1 hb3.2.2.2.2.1)
    rwa [h3] at this)
  have C3 : Hid (∀ w1 W, Below (w.heap.size + 1) (w.alloc (Dobj d)) w1 → Below (w1.heap.size + 1) (w1.alloc (.cells #[.func (.func 28) #[] #[.pointer (some ⟨w.heap.size, 0, none⟩)]] 57)) W → Calls Tryz.prog 31 #[.slice A n cap, .func (.func 34) #[] #[]] W fun e w' => e = .returned (.bool false) ∧ Below W.heap.size W w') := Lib.hid (fun w1 W hw1 hb => by
    have := containsUse_any 34 #[] (enters_of Tryz.func34 (by kernel_rfl) rfl) badUse A n cap l W (CX.out w1 W _ _ hw1 hb).2.2.1 (fun W2 u hu _ => badUse_any u W2)
    rwa [h4] at this)
  have CC : Hid (∀ w1 W, Below (w.heap.size + 1) (w.alloc (Dobj d)) w1 → Below (w1.heap.size + 1) (w1.alloc (.cells #[.func (.func 28) #[] #[.pointer (some ⟨w.heap.size, 0, none⟩)]] 57)) W → Calls Tryz.prog 35 #[.slice A n cap] W fun e w' => ∃ v, e = .returned v ∧ w'.ownsRow W.heap.size 43 4 v n (uss l) ∧ Below W.heap.size W w') := Lib.hid (fun w1 W hw1 hb => cloneUse_any A n cap l W (CX.out w1 W _ _ hw1 hb).2.2.1 (by omega))
  clear hD hM hU he h2 h3 h4 hlen
  unfold Dt.val
  go_enter Tryz.func11, Tryz.ntmps11
  go_wp2_with fail
  refine CD.out.mono ?_
  rintro e w1 ⟨rfl, hw1⟩
  have HW1 := Lib.hid hw1
  have hx : Below (w1.heap.size + 1) (w1.alloc (.cells #[.func (.func 28) #[] #[.pointer (some ⟨w.heap.size, 0, none⟩)]] 57)) (w1.alloc (.cells #[.func (.func 28) #[] #[.pointer (some ⟨w.heap.size, 0, none⟩)]] 57)) := Below.refl _ _
  have HX := Lib.hid hx
  clear hw1 hx
  go_wp2_with fail
  refine (C1.out _ _ HW1.out HX.out).mono ?_
  rintro e v1 ⟨rfl, hv1⟩
  replace HX := Lib.hid (HX.out.trans (hv1.mono (by have h9 := HX.out.size; first | omega | (simp at h9; omega) | simp)))
  clear hv1
  go_wp2_with fail
  refine (C2.out _ _ HW1.out HX.out).mono ?_
  rintro e v2 ⟨rfl, hv2⟩
  replace HX := Lib.hid (HX.out.trans (hv2.mono (by have h9 := HX.out.size; first | omega | (simp at h9; omega) | simp)))
  clear hv2
  go_wp2_with fail
  refine (C3.out _ _ HW1.out HX.out).mono ?_
  rintro e v3 ⟨rfl, hv3⟩
  replace HX := Lib.hid (HX.out.trans (hv3.mono (by have h9 := HX.out.size; first | omega | (simp at h9; omega) | simp)))
  clear hv3
  go_wp2_with fail
  obtain ⟨wc, hwc⟩ : ∃ wc : World, wc = v3 := ⟨_, rfl⟩
  rw [← hwc] at HX
  rw [← hwc]
  clear hwc
  refine (CC.out _ _ HW1.out HX.out).mono ?_
  rintro e w2 ⟨v, rfl, hown, hb2⟩
  have HB0 : Hid (∀ W, Below wc.heap.size wc W → Below w.heap.size w W) := Lib.hid (fun W h => (CX.out _ _ _ _ HW1.out (HX.out.trans (h.mono (by have := HX.out.size; simpa using this)))).1)
  clear CD C1 C2 C3 CC CX HW1 HX HSZ hmf
  by_cases hn0 : n = 0
  · subst hn0
    have hl0 : l = [] := List.eq_nil_of_length_eq_zero HLE.out
    subst hl0
    obtain ⟨A', c', rfl⟩ : ∃ A' c', v = .slice A' 0 c' := by
      rcases hown.2 with ⟨rfl, _⟩ | ⟨g, c', _, rfl, _⟩
      · exact ⟨none, 0, rfl⟩
      · exact ⟨_, c', rfl⟩
    have HB2 := Lib.hid (HB0.out _ hb2)
    clear hown hb2
    go_wp2_with fail
    refine (sortUse_none A' c' _ _).mono ?_
    rintro e w3 ⟨rfl, rfl⟩
    go_wp2
    refine wp_loop_rounds 1 ?_
    rw [rounds_succ]
    go_wp2
    go_ret
    exact ⟨ret_int (HE.out.trans rfl).symm, HB2.out⟩
  · obtain ⟨g, c', rfl, hgB⟩ : ∃ g c', v = .slice (some ⟨g, 0, none⟩) n c' ∧ wc.heap.size ≤ g := by
      rcases hown.2 with ⟨_, e⟩ | ⟨g, c', _, rfl, h, _⟩
      · exact absurd e hn0
      · exact ⟨g, c', rfl, h⟩
    have HOW := Lib.hid hown
    have HB2 := Lib.hid hb2
    clear hown hb2
    go_wp2_with fail
    refine (sortUse_any HOW.out (by omega)).mono ?_
    rintro e w3 ⟨rfl, s, hp, hs, hown3, hg3⟩
    have HB3 : Hid (Below wc.heap.size wc w3) := Lib.hid (HB2.out.grown hg3 HB2.out.size (fun k hk => by injection hk with hk; omega))
    have HOV : Hid (adjU s = overU l) := Lib.hid (adj_sorted hp HB4.out hs)
    have HSL : Hid (s.length = n) := Lib.hid (hp.length_eq.trans HLE.out)
    have HUS := Lib.hid (uss_own hown3)
    have hgl : g < w3.heap.size := (hown3.lt g rfl).2
    clear HOW HB2 hp hs hown3 hg3 HB4
    go_wp2
    go_loopw [8] (fun b8 wr => ∃ k : Nat, k < n ∧ b8 = .int .i64 ((k + 1 : Nat) : Int) ∧ Hid (anyTo (atI (nextU s) s) (k + 1) = false) ∧ Hid (Below w3.heap.size w3 wr)) (fun b8 _ => n - (intOf b8).toNat)
    case atStart => exact ⟨0, by omega, by go_num, Lib.hid (anyTo_no rfl (by
      obtain ⟨x, hx⟩ : ∃ x, s[0]? = some x := ⟨_, List.getElem?_eq_getElem (by rw [HSL.out]; omega)⟩
      rw [atI_eq hx]; rfl)), Lib.hid (Below.refl _ _)⟩
    case round =>
      obtain ⟨k, hk, rfl, hf, hb⟩ := hrel
      by_cases hlt : k + 1 < n
      · obtain ⟨p, hp⟩ : ∃ p, s[k]? = some p := ⟨_, List.getElem?_eq_getElem (by rw [HSL.out]; omega)⟩
        obtain ⟨u, hu⟩ : ∃ u, s[k + 1]? = some u := ⟨_, List.getElem?_eq_getElem (by rw [HSL.out]; omega)⟩
        obtain ⟨p0, p1, p2, p3⟩ := (HUS.out k p hp).below hb.out hgl
        obtain ⟨u0, u1, u2, u3⟩ := (HUS.out (k + 1) u hu).below hb.out hgl
        have HNX : Hid (nextU s (k + 1) u = (same p.zone u.zone && decide (u.fr < p.til))) := Lib.hid (next_at hp)
        have HAT := Lib.hid (atI_eq (p := nextU s) hu)
        have HUI := Lib.hid hu
        obtain ⟨j, hj⟩ : ∃ j, j = k + 1 := ⟨_, rfl⟩
        rw [← hj] at u0 u1 u2 u3 hlt hf HNX HAT HUI
        rw [← hj]
        have hw1 : wrap64 ((j : Int) - 1) = (k : Int) := by unfold wrap64; omega
        have hw2 : IntKind.i64.wrap ((j : Int) - 1) = (k : Int) := by rw [IntKind.wrap_i64]; omega
        have HJ := Lib.hid hj
        clear hp hu hj
        cases hq1 : same p.zone u.zone
        · have g1 : (p.zone.toList == u.zone.toList) = false := hq1
          have HF2 : Hid (anyTo (atI (nextU s) s) (j + 1) = false) := Lib.hid (anyTo_no hf.out (by rw [HAT.out, HNX.out, hq1]; rfl))
          clear hq1 hf
          go_wp2_with fail
          go_quiet (fail)
          go_wp2
          go_roundw
          case rel => exact ⟨j, by omega, by go_num, HF2, Lib.hid (below_drewN hb.out _)⟩
          case measure => simp [intOf]; omega
        · have g1 : (p.zone.toList == u.zone.toList) = true := hq1
          by_cases hq2 : u.fr < p.til
          · have g2 : decide (u.fr < p.til) = true := decide_eq_true hq2
            have HEE : Hid (usesE d l = 6) := Lib.hid (by
              rw [HE.out, ← HOV.out, if_pos]
              exact anyI_iff.2 ⟨j, u, HUI.out, by rw [HNX.out, hq1, g2]; rfl⟩)
            clear hq1 hf
            go_wp2_with fail
            go_quiet (fail)
            go_wp2
            go_ret
            exact ⟨ret_int HEE.out.symm, HB0.out _ (HB3.out.trans ((below_drewN hb.out _).mono HB3.out.size))⟩
          · have g2 : decide (u.fr < p.til) = false := decide_eq_false hq2
            have HF2 : Hid (anyTo (atI (nextU s) s) (j + 1) = false) := Lib.hid (anyTo_no hf.out (by rw [HAT.out, HNX.out, hq1, g2]; rfl))
            clear hq1 hf
            go_wp2_with fail
            go_quiet (fail)
            go_wp2
            go_roundw
            case rel => exact ⟨j, by omega, by go_num, HF2, Lib.hid (below_drewN hb.out _)⟩
            case measure => simp [intOf]; omega
      · have HEE : Hid (usesE d l = 0) := Lib.hid (by
          have hk2 : k + 1 = s.length := by rw [HSL.out]; omega
          have hf2 := hf.out
          rw [hk2] at hf2
          rw [HE.out, ← HOV.out, if_neg]
          unfold adjU anyI
          rw [hf2]; simp)
        obtain ⟨j, hj⟩ : ∃ j, j = k + 1 := ⟨_, rfl⟩
        rw [← hj] at hlt
        rw [← hj]
        clear hj hf
        go_wp2
        go_ret
        exact ⟨ret_int HEE.out.symm, HB0.out _ (HB3.out.trans (hb.out.mono HB3.out.size))⟩
theorem usesCk_any (d : Dt) (A : Option Addr) (n cap : Nat) (l : List Us) (w : World) (hD : DataAt w w.heap.size d) (hM : MaxAt w w.heap.size) (hU : UsesAt w w.heap.size A n l) :
    Calls Tryz.prog 11 #[d.val, .slice A n cap] w fun e w' => e = .returned (.int .i64 (usesE d l)) ∧ Below w.heap.size w w' := by
  by_cases he : dataE d = 0
  · by_cases h1 : 10 < n
    · exact usesCk_many d A n cap l w hD hM hU he h1
    · cases h2 : hasP badMt l
      · cases h3 : hasP (noZone d) l
        · cases h4 : hasP badUse l
          · exact usesCk_rest d A n cap l w hD hM hU he h1 h2 h3 h4
          · exact usesCk_use d A n cap l w hD hM hU he h1 h2 h3 h4
        · exact usesCk_zone d A n cap l w hD hM hU he h1 h2 h3
      · exact usesCk_mt d A n cap l w hD hM hU he h1 h2
  · exact usesCk_data d A n cap l w hD hM hU he
end Go.Proofs.YtbbbeldbhlehnaaGreat
end
/-! gnomonref.CheckUses. -/
section
set_option linter.unusedVariables false
set_option linter.unusedSimpArgs false
namespace Gno
open Go Go.Proofs.YtbbbeldbhlehnaaGreat
theorem badUse_in {u : Us} (h1 : withinB u.til 1 1893456000 = true) (h2 : withinB u.fr 0 (u.til - 1) = true) : badUse u = false := by
  rw [withinB_iff] at h1 h2
  unfold badUse
  simp; omega
theorem badUse_til {u : Us} (h1 : withinB u.til 1 1893456000 = false) : badUse u = true := by
  rw [withinB_no] at h1
  unfold badUse
  simp; omega
theorem badUse_fr {u : Us} (h1 : withinB u.til 1 1893456000 = true) (h2 : withinB u.fr 0 (u.til - 1) = false) : badUse u = true := by
  rw [withinB_iff] at h1
  rw [withinB_no] at h2
  unfold badUse
  simp; omega
end Gno
namespace Go.Proofs.YtbbbeldbhlehnaaGreat
open Go.RowKit Gno
theorem boxU {d : Dt} {A : Option Addr} {n : Nat} {l : List Us} {w W : World} (hD : DataAt w w.heap.size d) (hU : UsesAt w w.heap.size A n l) (hb : Below (w.heap.size + 1) (w.alloc (Dobj d)) W) :
    Below w.heap.size w W ∧ DataAt W W.heap.size d ∧ UsesAt W W.heap.size A n l ∧ W.cell? ⟨w.heap.size, 0, none⟩ = some (.slice d.sA d.sn d.sc) ∧ W.cell? ⟨w.heap.size, 1, none⟩ = some (.slice d.zA d.zn d.zc) ∧ W.cell? ⟨w.heap.size, 2, none⟩ = some (.slice d.lA d.ln d.lc) := by
  have h1 : Below w.heap.size w W := ((Below.refl w.heap.size w).alloc (Nat.le_refl _) (Dobj d)).trans (hb.mono (by omega))
  have k2 := (hb.block w.heap.size (by omega)).trans (World.alloc_heap_new w (Dobj d))
  unfold Dobj at k2
  exact ⟨h1, hD.next h1, hU.next h1, cell_ofU k2 rfl, cell_ofU k2 rfl, cell_ofU k2 rfl⟩
theorem box_more {d : Dt} {w W V : World} (hb : Below (w.heap.size + 1) (w.alloc (Dobj d)) W) (h : Below W.heap.size W V) : Below (w.heap.size + 1) (w.alloc (Dobj d)) V := hb.trans (h.mono (by have := hb.size; simpa using this))
set_option maxRecDepth 100000 in
set_option maxHeartbeats 16000000 in
theorem usesR_any (d : Dt) (A : Option Addr) (n cap : Nat) (l : List Us) (w : World) (hD : DataAt w w.heap.size d) (hU : UsesAt w w.heap.size A n l) :
    Calls Tryz.prog 12 #[d.val, .slice A n cap] w fun e w' => e = .returned (.int .i64 (usesE d l)) ∧ Below w.heap.size w w' := by
  have hnl : n ≤ 9223372036854775807 := hU.2.1
  have HLE : Hid (l.length = n) := Lib.hid hU.1
  have CX := Lib.hid (fun W hb => boxU (d := d) (A := A) (n := n) (l := l) (w := w) (W := W) hD hU hb)
  have CD : Hid (∀ W, Below (w.heap.size + 1) (w.alloc (Dobj d)) W → Calls Tryz.prog 41 #[.agg #[.slice d.sA d.sn d.sc, .slice d.zA d.zn d.zc, .slice d.lA d.ln d.lc]] W fun e w' => e = .returned (.int .i64 (dataE d)) ∧ Below W.heap.size W w') := Lib.hid (fun W hb => checkData_any d W (CX.out W hb).2.1)
  have CZ : Hid (∀ s W, Below (w.heap.size + 1) (w.alloc (Dobj d)) W → Calls Tryz.prog 42 #[.agg #[.slice d.sA d.sn d.sc, .slice d.zA d.zn d.zc, .slice d.lA d.ln d.lc], .string s] W fun e w' => e = .returned (.int .i64 (zoneN d s)) ∧ Below W.heap.size W w') := Lib.hid (fun s W hb => zoneN_any d s W (CX.out W hb).2.1)
  have HU : Hid (∀ i, i < n → ∃ b o u, A = some ⟨b, o, none⟩ ∧ b < w.heap.size ∧ l[i]? = some u ∧ u.zone.size ≤ maxLen ∧ u.mt.size ≤ maxLen ∧ ∀ W, Below w.heap.size w W → UsAt W b (o + i * 4) u) := Lib.hid (fun i hi => uses_get hU hi)
  have HX0 : Hid (Below (w.heap.size + 1) (w.alloc (Dobj d)) (w.alloc (Dobj d))) := Lib.hid (Below.refl _ _)
  clear hD hU
  by_cases he : dataE d = 0
  · have CD0 : Hid (∀ W, Below (w.heap.size + 1) (w.alloc (Dobj d)) W → Calls Tryz.prog 41 #[.agg #[.slice d.sA d.sn d.sc, .slice d.zA d.zn d.zc, .slice d.lA d.ln d.lc]] W fun e w' => e = .returned (.int .i64 0) ∧ Below W.heap.size W w') := Lib.hid (by have := CD.out; rwa [he] at this)
    have HE := Lib.hid he
    clear CD he
    by_cases h10 : 10 < n
    · have d10 : decide ((10 : Int) < (n : Int)) = true := decide_eq_true (by omega)
      have HX : Hid (usesE d l = 2) := Lib.hid (usesE_many HE.out (by rw [HLE.out]; exact h10))
      unfold Dt.val
      go_enter Tryz.func12, Tryz.ntmps12
      go_wp2_with fail
      refine (CD0.out _ HX0.out).mono ?_
      rintro e w1 ⟨rfl, hw1⟩
      have HB := Lib.hid (CX.out _ (box_more HX0.out hw1)).1
      clear hw1
      go_wp2
      go_ret
      exact ⟨ret_int HX.out.symm, HB.out⟩
    have d10 : decide ((10 : Int) < (n : Int)) = false := decide_eq_false (by omega)
    have HL10 : Hid (¬ 10 < l.length) := Lib.hid (by rw [HLE.out]; exact h10)
    unfold Dt.val
    go_enter Tryz.func12, Tryz.ntmps12
    go_wp2_with fail
    refine (CD0.out _ HX0.out).mono ?_
    rintro e w1 ⟨rfl, hw1⟩
    have HW1 := Lib.hid (box_more HX0.out hw1)
    clear hw1 CD0
    go_wp2
    go_loopw [6] (fun b6 wr => ∃ k : Nat, k ≤ n ∧ b6 = .int .i64 k ∧ Hid (anyTo (atI (fun _ => badMt) l) k = false) ∧ Hid (Below (w.heap.size + 1) (w.alloc (Dobj d)) wr)) (fun b6 _ => n - (intOf b6).toNat)
    case atStart => exact ⟨0, Nat.zero_le _, rfl, Lib.hid rfl, HW1⟩
    case round =>
      clear HW1 HX0
      obtain ⟨k, hk, rfl, hf, hb⟩ := hrel
      by_cases hlt : k < n
      · obtain ⟨b, o, u, hA, hbB, hu, hz, hm, hc⟩ := HU.out k hlt
        obtain ⟨e0, e1, e2, e3⟩ := hc _ (CX.out _ hb.out).1
        have NM := isName_any u.mt wr hm
        have HUI := Lib.hid hu
        have HAT := Lib.hid (atI_eq (p := fun _ => badMt) hu)
        subst hA
        clear hu hc hm hz
        cases hq : nameOk u.mt
        · rw [hq] at NM
          have NM := Lib.hid NM
          have HX : Hid (usesE d l = 5) := Lib.hid (usesE_mt HE.out HL10.out (hasP_yes HUI.out (by unfold badMt badNm; rw [hq]; rfl)))
          clear hq hf
          go_wp2_with (go_at_call 23; (with_reducible refine NM.out.mono ?_); rintro e w2 ⟨rfl, rfl⟩)
          go_ret
          exact ⟨ret_int HX.out.symm, (CX.out _ hb.out).1⟩
        · rw [hq] at NM
          have NM := Lib.hid NM
          have HF : Hid (anyTo (atI (fun _ => badMt) l) (k + 1) = false) := Lib.hid (anyTo_no hf.out (by rw [HAT.out]; unfold badMt badNm; rw [hq]; rfl))
          clear hq hf
          go_wp2_with (go_at_call 23; (with_reducible refine NM.out.mono ?_); rintro e w2 ⟨rfl, rfl⟩)
          go_roundw
          case rel => exact ⟨k + 1, by omega, by go_num, HF, hb⟩
          case measure => simp [intOf]; omega
      · have HP1 : Hid (hasP badMt l = false) := Lib.hid (hasP_no (i := k) (by rw [HLE.out]; exact hlt) (by rw [HLE.out]; exact hk) hf.out)
        have HW2 := hb
        clear hf
        go_wp2
        go_loopw [7] (fun b7 wr => ∃ k : Nat, k ≤ n ∧ b7 = .int .i64 k ∧ Hid (anyTo (atI (fun _ => noZone d) l) k = false) ∧ Hid (Below (w.heap.size + 1) (w.alloc (Dobj d)) wr)) (fun b7 _ => n - (intOf b7).toNat)
        case atStart => exact ⟨0, Nat.zero_le _, rfl, Lib.hid rfl, HW2⟩
        case round =>
          clear HW2 hb hlt hk
          obtain ⟨k, hk, rfl, hf, hb⟩ := hrel
          by_cases hlt : k < n
          · obtain ⟨b, o, u, hA, hbB, hu, hz, hm, hc⟩ := HU.out k hlt
            obtain ⟨e0, e1, e2, e3⟩ := hc _ (CX.out _ hb.out).1
            obtain ⟨_, _, _, c0, c1, c2⟩ := CX.out _ hb.out
            have HUI := Lib.hid hu
            have HAT := Lib.hid (atI_eq (p := fun _ => noZone d) hu)
            have hbd : Below wr.heap.size wr wr.drew := ⟨rfl, rfl, rfl, Nat.le_refl _, fun _ _ => rfl⟩
            have ZN := CZ.out u.zone _ (box_more hb.out hbd)
            have HBD := Lib.hid hbd
            obtain ⟨Z, hZ⟩ : ∃ Z, Z = zoneN d u.zone := ⟨_, rfl⟩
            rw [← hZ] at ZN
            have ZN := Lib.hid ZN
            have HZ := Lib.hid hZ
            subst hA
            clear hu hc hm hz hbd hZ
            by_cases hq : Z < 0
            · have g1 : decide (Z < 0) = true := decide_eq_true hq
              have HX : Hid (usesE d l = 4) := Lib.hid (usesE_zone HE.out HL10.out HP1.out (hasP_yes HUI.out (by unfold noZone; rw [← HZ.out]; exact g1)))
              clear hf
              go_wp2_with fail
              go_still_tail 6, (by kernel_rfl)
              go_wp2_with (go_at_call 42; (with_reducible refine ZN.out.mono ?_); rintro e w2 ⟨rfl, hw2⟩)
              go_ret
              exact ⟨ret_int HX.out.symm, (CX.out _ (box_more hb.out (HBD.out.trans (hw2.mono HBD.out.size)))).1⟩
            · have g1 : decide (Z < 0) = false := decide_eq_false hq
              have HF : Hid (anyTo (atI (fun _ => noZone d) l) (k + 1) = false) := Lib.hid (anyTo_no hf.out (by rw [HAT.out]; unfold noZone; rw [← HZ.out]; exact g1))
              clear hf
              go_wp2_with fail
              go_still_tail 6, (by kernel_rfl)
              go_wp2_with (go_at_call 42; (with_reducible refine ZN.out.mono ?_); rintro e w2 ⟨rfl, hw2⟩)
              go_roundw
              case rel => exact ⟨k + 1, by omega, by go_num, HF, Lib.hid (box_more hb.out (HBD.out.trans (hw2.mono HBD.out.size)))⟩
              case measure => simp [intOf]; omega
          · have HP2 : Hid (hasP (noZone d) l = false) := Lib.hid (hasP_no (i := k) (by rw [HLE.out]; exact hlt) (by rw [HLE.out]; exact hk) hf.out)
            have HW3 := hb
            clear hf CZ
            go_wp2
            go_loopw [8] (fun b8 wr => ∃ k : Nat, k ≤ n ∧ b8 = .int .i64 k ∧ Hid (anyTo (atI (fun _ => badUse) l) k = false) ∧ Hid (Below (w.heap.size + 1) (w.alloc (Dobj d)) wr)) (fun b8 _ => n - (intOf b8).toNat)
            case atStart => exact ⟨0, Nat.zero_le _, rfl, Lib.hid rfl, HW3⟩
            case round =>
              clear HW3 hb hlt hk
              obtain ⟨k, hk, rfl, hf, hb⟩ := hrel
              by_cases hlt : k < n
              · obtain ⟨b, o, u, hA, hbB, hu, hz, hm, hc⟩ := HU.out k hlt
                obtain ⟨e0, e1, e2, e3⟩ := hc _ (CX.out _ hb.out).1
                have HUI := Lib.hid hu
                have HAT := Lib.hid (atI_eq (p := fun _ => badUse) hu)
                subst hA
                clear hu hc hm hz
                cases hq1 : withinB u.til 1 1893456000
                · have W1 : Hid (∀ w, Calls Tryz.prog 43 #[.int .i64 u.til, .int .i64 1, .int .i64 1893456000] w fun e w' => e = .returned (.bool false) ∧ w' = w) := Lib.hid (fun w => by have h9 := (within_any u.til 1 1893456000 w).mono (fun _ _ h => (⟨h.1, h.2.symm⟩ : _ ∧ _)); rwa [hq1] at h9)
                  have HX : Hid (usesE d l = 3) := Lib.hid (usesE_use HE.out HL10.out HP1.out HP2.out (hasP_yes HUI.out (badUse_til hq1)))
                  clear hf hq1
                  go_wp2_with fail
                  go_quiet ((go_at_call 43; exact Calls.quiet_of_same (W1.out _)))
                  go_wp2
                  go_ret
                  exact ⟨ret_int HX.out.symm, (CX.out _ (below_drewN hb.out _)).1⟩
                · have W1 : Hid (∀ w, Calls Tryz.prog 43 #[.int .i64 u.til, .int .i64 1, .int .i64 1893456000] w fun e w' => e = .returned (.bool true) ∧ w' = w) := Lib.hid (fun w => by have h9 := (within_any u.til 1 1893456000 w).mono (fun _ _ h => (⟨h.1, h.2.symm⟩ : _ ∧ _)); rwa [hq1] at h9)
                  have hbd := (withinB_iff _ _ _).1 hq1
                  have hw1 : IntKind.i64.wrap (u.til - 1) = u.til - 1 := by rw [IntKind.wrap_i64]; omega
                  cases hq2 : withinB u.fr 0 (u.til - 1)
                  · have W2 : Hid (∀ w, Calls Tryz.prog 43 #[.int .i64 u.fr, .int .i64 0, .int .i64 (u.til - 1)] w fun e w' => e = .returned (.bool false) ∧ w' = w) := Lib.hid (fun w => by have h9 := (within_any u.fr 0 (u.til - 1) w).mono (fun _ _ h => (⟨h.1, h.2.symm⟩ : _ ∧ _)); rwa [hq2] at h9)
                    have HX : Hid (usesE d l = 3) := Lib.hid (usesE_use HE.out HL10.out HP1.out HP2.out (hasP_yes HUI.out (badUse_fr hq1 hq2)))
                    clear hf hq1 hq2
                    go_wp2_with fail
                    go_quiet ((first | (go_at_call 43; (with_reducible exact Calls.quiet_of_same (W1.out _))) | (go_at_call 43; (with_reducible exact Calls.quiet_of_same (W2.out _)))))
                    go_wp2
                    go_ret
                    exact ⟨ret_int HX.out.symm, (CX.out _ (below_drewN hb.out _)).1⟩
                  · have W2 : Hid (∀ w, Calls Tryz.prog 43 #[.int .i64 u.fr, .int .i64 0, .int .i64 (u.til - 1)] w fun e w' => e = .returned (.bool true) ∧ w' = w) := Lib.hid (fun w => by have h9 := (within_any u.fr 0 (u.til - 1) w).mono (fun _ _ h => (⟨h.1, h.2.symm⟩ : _ ∧ _)); rwa [hq2] at h9)
                    have HF : Hid (anyTo (atI (fun _ => badUse) l) (k + 1) = false) := Lib.hid (anyTo_no hf.out (by rw [HAT.out]; exact badUse_in hq1 hq2))
                    clear hf hq1 hq2
                    go_wp2_with fail
                    go_quiet ((first | (go_at_call 43; (with_reducible exact Calls.quiet_of_same (W1.out _))) | (go_at_call 43; (with_reducible exact Calls.quiet_of_same (W2.out _)))))
                    go_wp2
                    go_roundw
                    case rel => exact ⟨k + 1, by omega, by go_num, HF, Lib.hid (below_drewN hb.out _)⟩
                    case measure => simp [intOf]; omega
              · have HP3 : Hid (hasP badUse l = false) := Lib.hid (hasP_no (i := k) (by rw [HLE.out]; exact hlt) (by rw [HLE.out]; exact hk) hf.out)
                have HOV : Hid (usesE d l = if overU l = true then 6 else 0) := Lib.hid (usesE_over HE.out HL10.out HP1.out HP2.out HP3.out)
                have HW4 := hb
                clear hf HP1 HP2 HP3
                go_wp2
                go_loopw [9, 10] (fun b9 b10 wr => ∃ k : Nat, k ≤ n ∧ b9 = .int .i64 k ∧ Hid (anyTo (atI (fun k u => anyTo (atI (fun _ a => clash a u) l) k) l) k = false) ∧ Hid (Below (w.heap.size + 1) (w.alloc (Dobj d)) wr)) (fun b9 _ _ => n - (intOf b9).toNat)
                case atStart => exact ⟨0, Nat.zero_le _, rfl, Lib.hid rfl, HW4⟩
                case round =>
                  clear HW4 hb hlt hk
                  obtain ⟨k, hk, rfl, hf, hb⟩ := hrel
                  by_cases hlt : k < n
                  · obtain ⟨b, o, u, hA, hbB, hu, hz, hm, hc⟩ := HU.out k hlt
                    subst hA
                    have HUI := Lib.hid hu
                    have HAT := Lib.hid (atI_eq (p := fun k u => anyTo (atI (fun _ a => clash a u) l) k) hu)
                    have HCU := Lib.hid hc
                    have HBO := hb
                    obtain ⟨wo, hwo⟩ : ∃ wo : World, wo = wr := ⟨_, rfl⟩
                    rw [← hwo] at HBO
                    rw [← hwo]
                    clear hu hc hm hz hb hwo
                    go_wp2
                    go_loopw [10] (fun b10 wr => ∃ i : Nat, i ≤ k ∧ b10 = .int .i64 i ∧ Hid (anyTo (atI (fun _ a => clash a u) l) i = false) ∧ Hid (Below (w.heap.size + 1) (w.alloc (Dobj d)) wr)) (fun b10 _ => k - (intOf b10).toNat)
                    case atStart => exact ⟨0, Nat.zero_le _, rfl, Lib.hid rfl, HBO⟩
                    case round =>
                      clear HBO
                      obtain ⟨i, hi, rfl, hfi, hb⟩ := hrel
                      obtain ⟨e0, e1, e2, e3⟩ := HCU.out _ (CX.out _ hb.out).1
                      by_cases hik : i < k
                      · obtain ⟨b', o', a, hA', _, ha, _, _, hca⟩ := HU.out i (by omega)
                        injection hA' with hA'
                        injection hA' with q1 q2 _
                        subst q1
                        subst q2
                        obtain ⟨f0, f1, f2, f3⟩ := hca _ (CX.out _ hb.out).1
                        have HAI := Lib.hid (atI_eq (p := fun _ a => clash a u) ha)
                        have HAA := Lib.hid ha
                        have hin : i < n := by omega
                        clear ha hca
                        cases hq1 : same a.zone u.zone
                        · have g1 : (a.zone.toList == u.zone.toList) = false := hq1
                          have HF2 : Hid (anyTo (atI (fun _ a => clash a u) l) (i + 1) = false) := Lib.hid (anyTo_no hfi.out (by rw [HAI.out]; unfold clash; rw [hq1]; rfl))
                          clear hq1 hfi
                          go_wp2_with fail
                          go_quiet (fail)
                          go_wp2
                          go_roundw
                          case rel => exact ⟨i + 1, by omega, by go_num, HF2, Lib.hid (below_drewN hb.out _)⟩
                          case measure => simp [intOf]; omega
                        · have g1 : (a.zone.toList == u.zone.toList) = true := hq1
                          by_cases hq2 : a.fr < u.til
                          · have g2 : decide (a.fr < u.til) = true := decide_eq_true hq2
                            by_cases hq3 : u.fr < a.til
                            · have g3 : decide (u.fr < a.til) = true := decide_eq_true hq3
                              have HX : Hid (usesE d l = 6) := Lib.hid (by
                                rw [HOV.out, if_pos]
                                exact anyI_iff.2 ⟨k, u, HUI.out, anyTo_yes hik (by rw [HAI.out]; unfold clash; rw [hq1, g2, g3]; rfl)⟩)
                              clear hq1 hfi
                              go_wp2_with fail
                              go_quiet (fail)
                              go_wp2
                              go_ret
                              exact ⟨ret_int HX.out.symm, (CX.out _ (below_drewN hb.out _)).1⟩
                            · have g3 : decide (u.fr < a.til) = false := decide_eq_false hq3
                              have HF2 : Hid (anyTo (atI (fun _ a => clash a u) l) (i + 1) = false) := Lib.hid (anyTo_no hfi.out (by rw [HAI.out]; unfold clash; rw [hq1, g2, g3]; rfl))
                              clear hq1 hfi
                              go_wp2_with fail
                              go_quiet (fail)
                              go_wp2
                              go_roundw
                              case rel => exact ⟨i + 1, by omega, by go_num, HF2, Lib.hid (below_drewN hb.out _)⟩
                              case measure => simp [intOf]; omega
                          · have g2 : decide (a.fr < u.til) = false := decide_eq_false hq2
                            have HF2 : Hid (anyTo (atI (fun _ a => clash a u) l) (i + 1) = false) := Lib.hid (anyTo_no hfi.out (by rw [HAI.out]; unfold clash; rw [hq1, g2]; rfl))
                            clear hq1 hfi
                            go_wp2_with fail
                            go_quiet (fail)
                            go_wp2
                            go_roundw
                            case rel => exact ⟨i + 1, by omega, by go_num, HF2, Lib.hid (below_drewN hb.out _)⟩
                            case measure => simp [intOf]; omega
                      · have HF3 : Hid (anyTo (atI (fun k u => anyTo (atI (fun _ a => clash a u) l) k) l) (k + 1) = false) := Lib.hid (anyTo_no hf.out (by
                          rw [HAT.out]
                          have : i = k := by omega
                          rw [← this]; exact hfi.out))
                        clear hf hfi
                        go_wp2
                        go_roundw
                        case rel => exact ⟨k + 1, by omega, by go_num, HF3, hb⟩
                        case measure => simp [intOf]; omega
                  · have HX : Hid (usesE d l = 0) := Lib.hid (by
                      rw [HOV.out, if_neg]
                      have h9 : overU l = false := anyI_end (i := k) (by rw [HLE.out]; exact hlt) (by rw [HLE.out]; exact hk) hf.out
                      rw [h9]; simp)
                    clear hf
                    go_wp2
                    go_ret
                    exact ⟨ret_int HX.out.symm, (CX.out _ hb.out).1⟩
  · obtain ⟨E, hE⟩ : ∃ E, E = dataE d := ⟨_, rfl⟩
    have HX : Hid (usesE d l = E) := Lib.hid (by rw [hE]; exact usesE_data he)
    rw [← hE] at CD he
    have e1 : (E != 0) = true := by simpa using he
    have e2 : (E == 0) = false := by simpa using he
    clear hE
    unfold Dt.val
    go_enter Tryz.func12, Tryz.ntmps12
    go_wp2_with fail
    refine (CD.out _ HX0.out).mono ?_
    rintro e w1 ⟨rfl, hw1⟩
    have HB := Lib.hid (CX.out _ (box_more HX0.out hw1)).1
    clear hw1
    go_wp2
    go_ret
    exact ⟨ret_int HX.out.symm, HB.out⟩
end Go.Proofs.YtbbbeldbhlehnaaGreat
end
