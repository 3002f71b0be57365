/- Tries of right words: the longest one, in a text of any length. -/
import Derived.Test.YtggepbkhhnhnkaaTrW
set_option linter.unusedVariables false
set_option linter.unusedSimpArgs false
namespace Gno
open Go Go.RowKit Go.Proofs.Ytggepbkhhnhnkaa
theorem far_built {l : List ByteArray} (hw : wordsE l = 0) {u : List Nat} {m : Nat} (h : Far (buildL (bsL l)) u m) : m ≤ 12 := by
  obtain ⟨P, hP, hm, _⟩ := buildL_inv (bsL l)
  have h1 := h.2.1 m (Nat.le_refl _)
  have h0 : P[0]? = some [] := hP.zero
  rcases hP.go (u.take m) h0 with ⟨j, hj, _⟩ | ⟨_, hn⟩
  · have hmem : u.take m ∈ P := List.mem_of_getElem? (by simpa using hj)
    have hl : (u.take m).length = m := by rw [List.length_take]; have := h.1; omega
    rcases (hm _).1 hmem with he | ⟨w, hw2, hp⟩
    · rw [he] at hl; simp at hl; omega
    · obtain ⟨x, hx, rfl⟩ := bsL_mem.1 hw2
      have := hp.length_le
      rw [bs_len, hl] at this
      have := ((words_ok hw).2 x hx).2
      omega
  · rw [show ((0 : Nat) : Int) = 0 from rfl] at hn
    omega
end Gno
namespace Go.Proofs.Ytggepbkhhnhnkaa
open Go.RowKit Gno
theorem longW_any {l : List ByteArray} (hw : wordsE l = 0) (A : Option Addr) (n cap : Nat) (s : ByteArray) (w : World) (hT : NodesAt w w.heap.size A n (buildL (bsL l))) :
    Calls Try.prog 16 #[.slice A n cap, .string s] w fun e w' => e = .returned (.tuple #[.int .i64 (lgK (buildL (bsL l)) (bs s) s.size), .int .i64 (lgN (buildL (bsL l)) (bs s) s.size), .int .i64 0]) ∧ Below w.heap.size w w' := by
  obtain ⟨m, hm⟩ := far_exists (t := buildL (bsL l)) (bs s)
  exact longT_ok _ A n cap s m (by have := far_built hw hm; omega) w hT (buildL_ok _) hm
theorem findW_any {l : List ByteArray} (hw : wordsE l = 0) (A : Option Addr) (n cap : Nat) (s : ByteArray) (w : World) (hT : NodesAt w w.heap.size A n (buildL (bsL l))) :
    Calls Try.prog 15 #[.slice A n cap, .string s] w fun e w' => e = .returned (.tuple #[.int .i64 (ixF (bsL l) (bs s)), .int .i64 0]) ∧ Below w.heap.size w w' := by
  obtain ⟨m, hm⟩ := far_exists (t := buildL (bsL l)) (bs s)
  rw [← buildL_find]
  exact findT_ok _ A n cap s m (by have := far_built hw hm; omega) w hT (buildL_ok _) hm
end Go.Proofs.Ytggepbkhhnhnkaa
namespace Gno
open Go Go.RowKit Go.Proofs.Ytggepbkhhnhnkaa
/-- of a longer text. -/
theorem more_le (l : List ByteArray) (s b : ByteArray) : lgN (buildL (bsL l)) (bs s) s.size ≤ lgN (buildL (bsL l)) (bs (s ++ b)) (s ++ b).size := by
  obtain ⟨h1, h2, _⟩ := lgN_spec (buildL (bsL l)) (bs s) s.size
  obtain ⟨_, _, g3⟩ := lgN_spec (buildL (bsL l)) (bs (s ++ b)) (s ++ b).size
  rcases h2 with h2 | h2
  · omega
  · refine g3 _ (by rw [ByteArray.size_append]; omega) ?_
    have e : (bs (s ++ b)).take (lgN (buildL (bsL l)) (bs s) s.size) = (bs s).take (lgN (buildL (bsL l)) (bs s) s.size) := by
      have : bs (s ++ b) = bs s ++ bs b := by unfold bs; simp
      rw [this, List.take_append_of_le_length (by rw [bs_len]; omega)]
    rw [e]; exact h2
/-- of the word itself. -/
theorem self_is {l : List ByteArray} (hw : wordsE l = 0) (s : ByteArray) (N : Nat) (hN : N = lgN (buildL (bsL l)) (bs s) s.size) :
    lgN (buildL (bsL l)) (bs (s.extract 0 N)) (s.extract 0 N).size = N ∧ decide (0 ≤ lgK (buildL (bsL l)) (bs (s.extract 0 N)) (s.extract 0 N).size) = decide (0 < N) := by
  obtain ⟨h1, h2, _⟩ := lgN_spec (buildL (bsL l)) (bs s) s.size
  rw [← hN] at h1 h2
  have hz : (s.extract 0 N).size = N := by rw [ByteArray.size_extract]; omega
  have e : (bs (s.extract 0 N)).take N = (bs s).take N := by rw [bs_take, List.take_take, Nat.min_self]
  have hN2 : lgN (buildL (bsL l)) (bs (s.extract 0 N)) (s.extract 0 N).size = N := by
    obtain ⟨g1, _, g3⟩ := lgN_spec (buildL (bsL l)) (bs (s.extract 0 N)) (s.extract 0 N).size
    rcases h2 with h2 | h2
    · omega
    · have := g3 N (by omega) (by rw [e]; exact h2)
      omega
  refine ⟨hN2, ?_⟩
  have hk := lgK_neg hw (s.extract 0 N)
  rw [hN2] at hk
  rw [decide_eq_decide]
  omega
theorem bytesN_le (l : List ByteArray) : bytesN (bsL l) = (l.map ByteArray.size).sum := by
  induction l with
  | nil => rfl
  | cons x r ih =>
    show (bs x).length + bytesN (bsL r) = _
    rw [ih, bs_len]; simp
/-- what is left to be added up. -/
def sumF : List ByteArray → Nat → Nat
  | [], a => a
  | x :: r, a => sumF r (a + x.size)
theorem sumF_is : ∀ (l : List ByteArray) (a : Nat), sumF l a = a + bytesN (bsL l)
  | [], a => rfl
  | x :: r, a => by
    show sumF r (a + x.size) = a + ((bs x).length + bytesN (bsL r))
    rw [sumF_is r, bs_len]; omega
theorem nodes_few (l : List ByteArray) : (buildL (bsL l)).length ≤ sumF l 1 := by
  obtain ⟨_, _, _, h⟩ := buildL_inv (bsL l)
  rw [sumF_is]; exact h
end Gno
