/- Parts of a proof, laid together. -/
import Derived.Lib.OthersKept
import Derived.Deep.LoopGhost
import Derived.Shelf.Abstract
import Derived.Test.YtbbbeldbhlehnaaGreatMUsesTellsRow4
import Derived.Test.YtbbbeldbhlehnaaGreatMUsesTellsRow1
set_option linter.unusedSimpArgs false
set_option linter.unusedVariables false
/-! The walks of the library's ContainsFunc, of Letters and of the reference's letters. -/
section
set_option linter.unusedVariables false
set_option linter.unusedSimpArgs false
namespace Go.Proofs.YtbbbeldbhlehnaaGreat
open Go.RowKit Go.Shelf Gno

/-- what is asked of the function that is handed in: at every later world and every rune it returns 'p x', and whatever lay, lies. -/
def PredG (P : Program) (g : Nat) (lb : Array Value) (p : Nat → Bool) (w : World) : Prop :=
  ∀ (W : World) (x : Nat), x ≤ 1114111 → Below w.heap.size w W → Calls P g (#[.int .i32 (x : Int)] ++ lb) W fun e w' => e = .returned (.bool (p x)) ∧ Below W.heap.size W w'
theorem PredG.later {P : Program} {g : Nat} {lb : Array Value} {p : Nat → Bool} {w W : World} (h : PredG P g lb p w) (hb : Below w.heap.size w W) : PredG P g lb p W :=
  fun W' x hx hb' => h W' x hx (hb.trans (hb'.mono hb.size))

set_option maxHeartbeats 2000000 in
set_option maxRecDepth 1000000 in
theorem indexFunc_any (g : Nat) (lb : Array Value) (eg : ∀ args w, (callFunc g args).run Tryz.prog w = .ok (.enter g args) w) (p : Nat → Bool) (s : ByteArray) (w : World) (hp : PredG Tryz.prog g lb p w) :
    Calls Tryz.prog 118 #[.string s, .func (.func g) #[] lb, .bool true] w fun e w' => e = .returned (.int .i64 (idxR p s s.size 0)) ∧ Below w.heap.size w w' := by
  go_enter Tryz.func118, Tryz.ntmps118
  go_wp2
  go_loopg [] s.size (fun gf wx => ∃ pos : Nat, wx.heap[w.heap.size]? = some (.stringIter s pos) ∧ Below w.heap.size w wx ∧ idxR p s gf pos = idxR p s s.size 0 ∧ s.size ≤ pos + gf)
  case atStart => exact ⟨0, World.iter_heap w s 0, (Below.refl _ w).alloc (Nat.le_refl _) _, rfl, by omega⟩
  case round =>
    obtain ⟨pos, hit, hbw, hleft, hfu⟩ := hrel
    by_cases hps : pos < s.size
    · obtain ⟨g', rfl⟩ : ∃ g', gk = g' + 1 := ⟨gk - 1, by omega⟩
      have hnx : ∀ ty, (Instr.next (.pointer (some ⟨w.heap.size, 0, none⟩)) true ty).run Tryz.prog wr = _ := fun ty => Lib.run_next_any_at wr w.heap.size s pos ty hit hps
      have hwd := Lib.width_pos s pos
      obtain ⟨R, hR⟩ : ∃ R, (Utf8.decode s pos).1 = R := ⟨_, rfl⟩
      obtain ⟨K, hK⟩ : ∃ K, (Utf8.decode s pos).2 = K := ⟨_, rfl⟩
      simp only [idxR, hps, if_true, hR, hK] at hleft
      rw [hR, hK] at hnx
      rw [hK] at hwd
      have hit2 := Lib.iterAt_heap wr w.heap.size s pos (pos + K) hit
      have hbw2 := Lib.below_iterAt hbw (k := w.heap.size) (Nat.le_refl _) s (pos + K)
      obtain ⟨W, hWd⟩ : ∃ W, wr.iterAt w.heap.size s (pos + K) = W := ⟨_, rfl⟩
      rw [hWd] at hnx hit2 hbw2
      have hltW : w.heap.size < W.heap.size := (Array.getElem?_eq_some_iff.1 hit2).1
      have cS : Calls Tryz.prog g (#[.int .i32 (R : Int)] ++ lb) W _ := hp W R (by rw [← hR]; exact Lib.rune_le s pos) hbw2
      clear hp
      cases hsp : p R <;> rw [hsp] at cS <;> simp only [hsp, if_true, Bool.false_eq_true, if_false] at hleft
      · go_wp2_with (go_at_fn g; refine cS.mono ?_; rintro e W' ⟨rfl, hbc⟩)
        go_roundg g'
        case measure => omega
        case rel => exact ⟨pos + K, (hbc.block _ hltW).trans hit2, (hbw2.trans (hbc.mono hbw2.size)), hleft, by omega⟩
      · go_wp2_with (go_at_fn g; refine cS.mono ?_; rintro e W' ⟨rfl, hbc⟩)
        go_ret
        exact ⟨by rw [← hleft] <;> rfl, (hbw2.trans (hbc.mono hbw2.size))⟩
    · have hnx : ∀ ty, (Instr.next (.pointer (some ⟨w.heap.size, 0, none⟩)) true ty).run Tryz.prog wr = _ := fun ty => Lib.run_next_end_at wr w.heap.size s pos ty hit hps
      rw [idxR_end p s gk pos hps] at hleft
      go_wp2
      go_ret
      exact ⟨by rw [← hleft] <;> rfl, hbw⟩

theorem containsFunc_any (g : Nat) (lb : Array Value) (eg : ∀ args w, (callFunc g args).run Tryz.prog w = .ok (.enter g args) w) (p : Nat → Bool) (s : ByteArray) (w : World) (hp : PredG Tryz.prog g lb p w) :
    Calls Tryz.prog 53 #[.string s, .func (.func g) #[] lb] w fun e w' => e = .returned (.bool (hasRune p s)) ∧ Below w.heap.size w w' := by
  have H := Lib.hid (fun w hp => indexFunc_any g lb eg p s w hp)
  have IF : ∀ w, PredG Tryz.prog g lb p w → Calls Tryz.prog 86 #[.string s, .func (.func g) #[] lb] w fun e w' => e = .returned (.int .i64 (idxR p s s.size 0)) ∧ Below w.heap.size w w' := by
    intro w hp
    have HP := Lib.hid hp
    clear hp eg
    go_enter Tryz.func86, Tryz.ntmps86
    go_wp2_with (go_at_call 118; (with_reducible refine (H.out _ HP.out).mono ?_); rintro e w1 ⟨rfl, hb1⟩)
    go_ret
    exact ⟨rfl, hb1⟩
  have HF := Lib.hid IF
  have HP := Lib.hid hp
  clear IF hp eg H
  go_enter Tryz.func53, Tryz.ntmps53
  go_wp2_with (go_at_call 86; (with_reducible refine (HF.out _ HP.out).mono ?_); rintro e w1 ⟨rfl, hb1⟩)
  go_ret
  exact ⟨ret_bool rfl, hb1⟩

theorem notLet_any (x : Nat) (w : World) (hx : x ≤ 1114111) :
    Calls Tryz.prog 84 #[.int .i32 (x : Int)] w fun e w' => e = .returned (.bool (notLet x)) ∧ w = w' := by
  by_cases h1 : (x : Int) < 97
  · by_cases h3 : (x : Int) < 65
    · go_enter Tryz.func84, Tryz.ntmps84
      go_wp2
      go_ret
      exact ⟨ret_bool (by simp [notLet, isLet]; omega), rfl⟩
    · by_cases h4 : (90 : Int) < x
      all_goals
        go_enter Tryz.func84, Tryz.ntmps84
        go_wp2
        go_ret
        exact ⟨ret_bool (by simp [notLet, isLet]; omega), rfl⟩
  · by_cases h2 : (122 : Int) < x
    · have h3 : ¬ (x : Int) < 65 := by omega
      have h4 : (90 : Int) < x := by omega
      go_enter Tryz.func84, Tryz.ntmps84
      go_wp2
      go_ret
      exact ⟨ret_bool (by simp [notLet, isLet]; omega), rfl⟩
    · go_enter Tryz.func84, Tryz.ntmps84
      go_wp2
      go_ret
      exact ⟨ret_bool (by simp [notLet, isLet]; omega), rfl⟩

theorem letters_any (s : ByteArray) (w : World) :
    Calls Tryz.prog 51 #[.string s] w fun e w' => e = .returned (.bool (allLet s)) ∧ Below w.heap.size w w' := by
  have C := Lib.hid (fun w => containsFunc_any 84 #[] (enters_of Tryz.func84 (by kernel_rfl) rfl) notLet s w
    (fun W x hx _ => (notLet_any x W hx).mono fun _ _ h => ⟨h.1, h.2 ▸ Below.refl _ _⟩))
  simp only [hasRune_notLet] at C
  go_enter Tryz.func51, Tryz.ntmps51
  go_wp2_with (go_at_call 53; (with_reducible refine (C.out _).mono ?_); rintro e w1 ⟨rfl, hb1⟩)
  go_ret
  exact ⟨ret_bool (by simp), hb1⟩
end Go.Proofs.YtbbbeldbhlehnaaGreat
end
