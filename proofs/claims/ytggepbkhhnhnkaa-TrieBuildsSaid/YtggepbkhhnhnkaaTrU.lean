/- Tries: what Build hands back, for its callers; trieBegun. -/
import Derived.Test.YtggepbkhhnhnkaaTrT
import Derived.BigRegion
set_option linter.unusedVariables false
set_option linter.unusedSimpArgs false
namespace Gno
open Go Go.RowKit Go.Proofs.Ytggepbkhhnhnkaa
def begL : List ByteArray := [⟨#[97, 98]⟩, ⟨#[97, 98, 99]⟩, ⟨#[98]⟩, ⟨#[97, 98]⟩]
def begT : List Nd := [⟨[⟨97, 1⟩, ⟨98, 4⟩], -1⟩, ⟨[⟨98, 2⟩], -1⟩, ⟨[⟨99, 3⟩], 0⟩, ⟨[], 1⟩, ⟨[], 2⟩]
theorem begT_is : buildL (bsL begL) = begT := by rfl
theorem begF : findW begT ⟨#[97, 98]⟩ = 0 := by rfl
theorem begA : longKW begT ⟨#[97, 98, 100]⟩ = 0 ∧ longNW begT ⟨#[97, 98, 100]⟩ = 2 := by constructor <;> rfl
theorem begX : longKW begT ⟨#[120]⟩ = -1 ∧ longNW begT ⟨#[120]⟩ = 0 := by constructor <;> rfl
theorem begE : trieE begT = 0 ∧ trieE [] = 1 := by constructor <;> rfl
theorem nodes_nil (w : World) : NodesAt w w.heap.size none 0 [] := ⟨rfl, Nat.zero_le _, fun h => by omega⟩
theorem strs_laid (w : World) (l : List ByteArray) (n : Nat) (hl : l.length = n) (hn : n ≤ maxLen) (E : TypeId) : StrsAt (w.alloc (.cells (l.map Value.string).toArray E)) (w.alloc (.cells (l.map Value.string).toArray E)).heap.size (some ⟨w.heap.size, 0, none⟩) n l :=
  ⟨hl, hn, fun _ => ⟨w.heap.size, 0, rfl, by simp, fun i s hi => by
    have := laid_at (w := w) (cs := (l.map Value.string).toArray) (E := E) i (.string s) (by simp [hi])
    rwa [addLit] at this⟩⟩
end Gno
namespace Go.Proofs.Ytggepbkhhnhnkaa
open Go.RowKit Gno
/-- what a builder hands back: nodes that are read. -/
def BuiltN (w : World) (R : List Nd) (f : Value → Value) (e : Ending) (w' : World) : Prop := ∃ A n cap, e = .returned (f (.slice A n cap)) ∧ NodesAt w' w'.heap.size A n R ∧ n ≤ 481 ∧ Below w.heap.size w w'
theorem built_n {w : World} {R : List Nd} {f : Value → Value} {e : Ending} {w' : World} (h : BuiltR w R f e w') : BuiltN w R f e w' := by
  obtain ⟨v, ps, rfl, ho, hg, hR, hl, hb⟩ := h
  obtain ⟨A, cap, rfl, hn⟩ := ho.nodes (by unfold maxLen; omega) (fun i p hp => by
    have := good_len hg (a := i) (n := p.2) (by rw [List.getElem?_map, hp]; rfl)
    unfold maxLen; omega)
  exact ⟨A, ps.length, cap, rfl, hR ▸ hn, hl, hb⟩
theorem build_n (A : Option Addr) (n cap : Nat) (l : List ByteArray) (w : World) (hT : StrsAt w w.heap.size A n l) (hE : wordsE l = 0) :
    Calls Try.prog 8 #[.slice A n cap] w (BuiltN w (buildL (bsL l)) fun v => .tuple #[v, .int .i64 0]) := (build_right A n cap l w hT hE).mono fun e w' h => built_n h
set_option maxHeartbeats 8000000 in
theorem trieBegun_any (w : World) : Calls Try.prog 11 #[] w fun e w' => e = .returned (.bool true) ∧ Below w.heap.size w w' := by
  have HB : Hid (∀ W A cap, StrsAt W W.heap.size A 4 begL → Calls Try.prog 8 #[.slice A 4 cap] W (BuiltN W begT fun v => .tuple #[v, .int .i64 0])) := Lib.hid fun W A cap h => by
    have := build_n A 4 cap begL W h (by rfl)
    rwa [begT_is] at this
  have HB1 : Hid (∀ W A cap, StrsAt W W.heap.size A 1 [⟨#[]⟩] → Calls Try.prog 8 #[.slice A 1 cap] W fun e w' => e = .returned (.tuple #[.slice none 0 0, .int .i64 5]) ∧ W = w') := Lib.hid fun W A cap h => by
    have := build_bad A 1 cap [⟨#[]⟩] W h (by decide)
    rwa [show wordsE [(⟨#[]⟩ : ByteArray)] = 5 from by rfl] at this
  have HF : Hid (∀ W A n cap, NodesAt W W.heap.size A n begT → Calls Try.prog 15 #[.slice A n cap, .string ⟨#[97, 98]⟩] W fun e w' => e = .returned (.tuple #[.int .i64 0, .int .i64 0]) ∧ Below W.heap.size W w') := Lib.hid fun W A n cap h => by
    have := findT_any begT A n cap ⟨#[97, 98]⟩ (by decide) W h
    rwa [begF, begE.1] at this
  have HA : Hid (∀ W A n cap, NodesAt W W.heap.size A n begT → Calls Try.prog 16 #[.slice A n cap, .string ⟨#[97, 98, 100]⟩] W fun e w' => e = .returned (.tuple #[.int .i64 0, .int .i64 2, .int .i64 0]) ∧ Below W.heap.size W w') := Lib.hid fun W A n cap h => by
    have := longT_any begT A n cap ⟨#[97, 98, 100]⟩ (by decide) W h
    rwa [begA.1, begA.2, begE.1] at this
  have HX : Hid (∀ W A n cap, NodesAt W W.heap.size A n begT → Calls Try.prog 16 #[.slice A n cap, .string ⟨#[120]⟩] W fun e w' => e = .returned (.tuple #[.int .i64 (-1), .int .i64 0, .int .i64 0]) ∧ Below W.heap.size W w') := Lib.hid fun W A n cap h => by
    have := longT_any begT A n cap ⟨#[120]⟩ (by decide) W h
    rwa [begX.1, begX.2, begE.1] at this
  have HC : Hid (∀ W A n cap, NodesAt W W.heap.size A n begT → Calls Try.prog 12 #[.slice A n cap] W fun e w' => e = .returned (.int .i64 0) ∧ Below W.heap.size W w') := Lib.hid fun W A n cap h => by
    have := check_any begT A n cap W h
    rwa [begE.1] at this
  have H0 : Hid (∀ W, Calls Try.prog 12 #[.slice none 0 0] W fun e w' => e = .returned (.int .i64 1) ∧ Below W.heap.size W w') := Lib.hid fun W => by
    have := check_any [] none 0 0 W (nodes_nil W)
    rwa [begE.2] at this
  go_enter Try.func11, Try.ntmps11
  go_wp2_with fail
  refine (HB.out _ _ _ (strs_laid w begL 4 rfl (by decide) 9)).mono ?_
  rintro e w1 ⟨A, n, cap, rfl, hN, hn, hb⟩
  have h1 : Below w.heap.size w w1 := ((Below.refl _ _).alloc (Nat.le_refl _) _).trans (hb.mono (by simp))
  have hn5 : n = 5 := hN.1.symm
  subst hn5
  have HN := Lib.hid hN
  clear hb hN
  go_wp2_with fail
  refine (HF.out _ _ _ _ HN.out).mono ?_
  rintro e w2 ⟨rfl, hb⟩
  replace HN := Lib.hid (HN.out.next hb)
  replace h1 := h1.trans (hb.mono h1.size)
  clear hb
  go_wp2_with fail
  refine (HA.out _ _ _ _ HN.out).mono ?_
  rintro e w3 ⟨rfl, hb⟩
  replace HN := Lib.hid (HN.out.next hb)
  replace h1 := h1.trans (hb.mono h1.size)
  clear hb
  go_wp2_with fail
  refine (HX.out _ _ _ _ HN.out).mono ?_
  rintro e w4 ⟨rfl, hb⟩
  replace HN := Lib.hid (HN.out.next hb)
  replace h1 := h1.trans (hb.mono h1.size)
  clear hb
  go_wp2_with fail
  refine (HB1.out _ _ _ (strs_laid w4 [⟨#[]⟩] 1 rfl (by decide) 9)).mono ?_
  rintro e w5 ⟨rfl, hw5⟩
  have hb : Below w4.heap.size w4 w5 := by rw [← hw5]; exact (Below.refl _ _).alloc (Nat.le_refl _) _
  clear hw5
  replace HN := Lib.hid (HN.out.next hb)
  replace h1 := h1.trans (hb.mono h1.size)
  clear hb
  go_wp2_with fail
  refine (HC.out _ _ _ _ HN.out).mono ?_
  rintro e w6 ⟨rfl, hb⟩
  replace h1 := h1.trans (hb.mono h1.size)
  clear hb HN
  go_wp2_with fail
  refine (H0.out _).mono ?_
  rintro e w7 ⟨rfl, hb⟩
  replace h1 := h1.trans (hb.mono h1.size)
  clear hb
  go_wp2
  go_ret
  exact ⟨rfl, h1⟩
end Go.Proofs.Ytggepbkhhnhnkaa
