/- Parts of a proof, laid together. -/
import Derived.BigRegion
import Derived.Test.YtbbbeldbhlehnaaGreatDoorMUBkT23
set_option linter.unusedSimpArgs false
set_option linter.unusedVariables false
/-! Tries: what Build hands back, for its callers; trieBegun. -/
section
set_option maxRecDepth 100000
set_option linter.unusedVariables false
set_option linter.unusedSimpArgs false
namespace Gno
open Go Go.RowKit Go.Proofs.YtbbbeldbhlehnaaGreatDoor
def begL : List ByteArray := [⟨#[97, 98]⟩, ⟨#[97, 98, 99]⟩, ⟨#[98]⟩, ⟨#[97, 98]⟩]
def begT : List Nd := [⟨[⟨97, 1⟩, ⟨98, 4⟩], -1⟩, ⟨[⟨98, 2⟩], -1⟩, ⟨[⟨99, 3⟩], 0⟩, ⟨[], 1⟩, ⟨[], 2⟩]
end Gno
namespace Go.Proofs.YtbbbeldbhlehnaaGreatDoor
open Go.RowKit Gno
/-- what a builder hands back: nodes that are read. -/
def BuiltN (w : World) (R : List Nd) (f : Value → Value) (e : Ending) (w' : World) : Prop := ∃ A n cap, e = .returned (f (.slice A n cap)) ∧ NodesAt w' w'.heap.size A n R ∧ n ≤ 481 ∧ Below w.heap.size w w'
theorem built_n {w : World} {R : List Nd} {f : Value → Value} {e : Ending} {w' : World} (h : BuiltR w R f e w') : BuiltN w R f e w' := by
  obtain ⟨v, ps, rfl, ho, hg, hR, hl, hb⟩ := h
  obtain ⟨A, cap, rfl, hn⟩ := ho.nodes (by unfold maxLen; omega) (fun i p hp => by
    have := good_len hg (a := i) (n := p.2) (by rw [List.getElem?_map, hp]; rfl)
    unfold maxLen; omega)
  exact ⟨A, ps.length, cap, rfl, hR ▸ hn, hl, hb⟩
theorem build_n (A : Option Addr) (n cap : Nat) (l : List ByteArray) (w : World) (hT : StrsAt w w.heap.size A n l) (hE : wordsE l = 0) :
    Calls Tryz.prog 30 #[.slice A n cap] w (BuiltN w (buildL (bsL l)) fun v => .tuple #[v, .int .i64 0]) := (build_right A n cap l w hT hE).mono fun e w' h => built_n h
end Go.Proofs.YtbbbeldbhlehnaaGreatDoor
end
/-! Tries, plain: what the words found in a text are. -/
section
set_option maxRecDepth 100000
set_option linter.unusedVariables false
set_option linter.unusedSimpArgs false
namespace Gno
open Go Go.RowKit Go.Proofs.YtbbbeldbhlehnaaGreatDoor
/-- is it a word that the text begins with? -/
def isPre (s x : ByteArray) : Prop := x.size ≤ s.size ∧ s.extract 0 x.size = x
theorem isPre_iff (s x : ByteArray) : isPre s x ↔ x.size ≤ s.size ∧ (bs s).take x.size = bs x := by
  unfold isPre
  rw [← bs_take]
  exact ⟨fun h => ⟨h.1, by rw [h.2]⟩, fun h => ⟨h.1, bs_inj h.2⟩⟩
open Classical in
noncomputable def bestF (s : ByteArray) : List ByteArray → Nat → Nat
  | [], b => b
  | x :: r, b => bestF s r (if isPre s x then max b x.size else b)
open Classical in
noncomputable def firF (s : ByteArray) : List ByteArray → Nat → Int → Int
  | [], _, f => f
  | x :: r, k, f => firF s r (k + 1) (if x = s ∧ f < 0 then k else f)
theorem best_spec (s : ByteArray) : ∀ (l : List ByteArray) (b : Nat), b ≤ bestF s l b ∧ (bestF s l b = b ∨ ∃ x ∈ l, isPre s x ∧ x.size = bestF s l b) ∧ ∀ x ∈ l, isPre s x → x.size ≤ bestF s l b
  | [], b => ⟨Nat.le_refl _, .inl rfl, fun x hx => by cases hx⟩
  | x :: r, b => by
    unfold bestF
    by_cases h : isPre s x
    · rw [if_pos h]
      obtain ⟨h1, h2, h3⟩ := best_spec s r (max b x.size)
      refine ⟨by omega, ?_, fun y hy hp => ?_⟩
      · rcases h2 with h2 | ⟨y, hy, hp, he⟩
        · rcases Nat.le_total b x.size with hb | hb
          · exact .inr ⟨x, List.mem_cons_self, h, by rw [h2]; omega⟩
          · exact .inl (by rw [h2]; omega)
        · exact .inr ⟨y, List.mem_cons_of_mem _ hy, hp, he⟩
      · rcases List.mem_cons.1 hy with rfl | hy
        · omega
        · exact h3 y hy hp
    · rw [if_neg h]
      obtain ⟨h1, h2, h3⟩ := best_spec s r b
      refine ⟨h1, ?_, fun y hy hp => ?_⟩
      · rcases h2 with h2 | ⟨y, hy, hp, he⟩
        · exact .inl h2
        · exact .inr ⟨y, List.mem_cons_of_mem _ hy, hp, he⟩
      · rcases List.mem_cons.1 hy with rfl | hy
        · exact absurd hp h
        · exact h3 y hy hp
theorem fir_at (s : ByteArray) : ∀ (l : List ByteArray) (k : Nat) (f : Int), 0 ≤ f → firF s l k f = f
  | [], _, _, _ => rfl
  | x :: r, k, f, h => by
    unfold firF
    rw [if_neg (fun h2 => by omega)]
    exact fir_at s r (k + 1) f h
theorem fir_no (s : ByteArray) : ∀ (l : List ByteArray) (k : Nat), firF s l k (-1) = if 0 ≤ ixF (bsL l) (bs s) then k + ixF (bsL l) (bs s) else -1
  | [], _ => by rfl
  | x :: r, k => by
    show firF s r (k + 1) _ = _
    have hge := (ixF_ge (bsL r) (bs s)).1
    have hcons : ixF (bsL (x :: r)) (bs s) = if bs x = bs s then 0 else if ixF (bsL r) (bs s) < 0 then -1 else ixF (bsL r) (bs s) + 1 := rfl
    rw [hcons]
    by_cases h : x = s
    · rw [if_pos ⟨h, by omega⟩, if_pos (show bs x = bs s by rw [h]), fir_at s r _ _ (by omega), if_pos (by omega)]
      omega
    · rw [if_neg (fun h2 => h h2.1), if_neg (show ¬ bs x = bs s from fun h2 => h (bs_inj h2)), fir_no s r (k + 1)]
      by_cases h3 : ixF (bsL r) (bs s) < 0
      · rw [if_pos h3, if_neg (by omega), if_neg (by omega)]
      · rw [if_neg h3, if_pos (by omega), if_pos (by omega)]; omega
theorem fir_ix (s : ByteArray) (l : List ByteArray) : firF s l 0 (-1) = ixF (bsL l) (bs s) := by
  rw [fir_no]
  have := (ixF_ge (bsL l) (bs s)).1
  split <;> omega
theorem lgN_spec (t : List Nd) (u : List Nat) : ∀ m, lgN t u m ≤ m ∧ (lgN t u m = 0 ∨ 0 ≤ findK t (u.take (lgN t u m))) ∧ ∀ j, j ≤ m → 0 ≤ findK t (u.take j) → j ≤ lgN t u m
  | 0 => ⟨Nat.le_refl _, .inl rfl, fun j h _ => h⟩
  | m + 1 => by
    unfold lgN
    by_cases h : 0 ≤ findK t (u.take (m + 1))
    · rw [if_pos h]
      exact ⟨Nat.le_refl _, .inr h, fun j h _ => h⟩
    · rw [if_neg h]
      obtain ⟨h1, h2, h3⟩ := lgN_spec t u m
      refine ⟨by omega, h2, fun j hj hp => ?_⟩
      by_cases e : j = m + 1
      · rw [e] at hp; exact absurd hp h
      · exact h3 j (by omega) hp
theorem lgK_spec (t : List Nd) (u : List Nat) : ∀ m, lgK t u m = if 0 ≤ findK t (u.take (lgN t u m)) then findK t (u.take (lgN t u m)) else -1
  | 0 => rfl
  | m + 1 => by
    unfold lgK lgN
    by_cases h : 0 ≤ findK t (u.take (m + 1))
    · rw [if_pos h, if_pos h, if_pos h]
    · rw [if_neg h, if_neg h]; exact lgK_spec t u m
theorem bsL_mem {l : List ByteArray} {q : List Nat} : q ∈ bsL l ↔ ∃ x ∈ l, bs x = q := by unfold bsL; exact List.mem_map
theorem bsL_get {l : List ByteArray} {i : Nat} {q : List Nat} (h : (bsL l)[i]? = some q) : ∃ x, l[i]? = some x ∧ bs x = q := by
  unfold bsL at h
  rw [List.getElem?_map] at h
  cases hx : l[i]? with
  | none => rw [hx] at h; cases h
  | some x => rw [hx] at h; exact ⟨x, rfl, by simpa using h⟩
/-- the longest word that a text begins with, told twice. -/
theorem best_is (l : List ByteArray) (s : ByteArray) : lgN (buildL (bsL l)) (bs s) s.size = bestF s l 0 := by
  obtain ⟨h1, h2, h3⟩ := lgN_spec (buildL (bsL l)) (bs s) s.size
  obtain ⟨_, g2, g3⟩ := best_spec s l 0
  apply Nat.le_antisymm
  · rcases h2 with h2 | h2
    · omega
    · rw [buildL_find, ixF_mem, bsL_mem] at h2
      obtain ⟨x, hx, he⟩ := h2
      have hl : x.size = lgN (buildL (bsL l)) (bs s) s.size := by rw [← bs_len, he, List.length_take, bs_len]; omega
      have := g3 x hx ((isPre_iff s x).2 ⟨by omega, by rw [hl, he]⟩)
      omega
  · rcases g2 with g2 | ⟨x, hx, hp, he⟩
    · omega
    · obtain ⟨p1, p2⟩ := (isPre_iff s x).1 hp
      rw [← he]
      refine h3 _ p1 ?_
      rw [buildL_find, ixF_mem, bsL_mem]
      exact ⟨x, hx, p2.symm⟩
/-- the longest word's place. -/
theorem lgK_word {l : List ByteArray} {s : ByteArray} (h : 0 ≤ lgK (buildL (bsL l)) (bs s) s.size) : l[(lgK (buildL (bsL l)) (bs s) s.size).toNat]? = some (s.extract 0 (lgN (buildL (bsL l)) (bs s) s.size)) := by
  rw [lgK_spec, buildL_find] at h ⊢
  split at h
  · rename_i h0
    rw [if_pos h0]
    obtain ⟨x, h1, h2⟩ := bsL_get (ixF_at _ _ h0)
    rw [h1, bs_inj (h2.trans (bs_take s _).symm)]
  · omega
theorem lgK_lt (l : List ByteArray) (s : ByteArray) : -1 ≤ lgK (buildL (bsL l)) (bs s) s.size ∧ lgK (buildL (bsL l)) (bs s) s.size < l.length := by
  rw [lgK_spec, buildL_find]
  have := ixF_ge (bsL l) ((bs s).take (lgN (buildL (bsL l)) (bs s) s.size))
  have hl : (bsL l).length = l.length := by unfold bsL; simp
  split <;> omega
theorem words_ok {l : List ByteArray} (h : wordsE l = 0) : l.length ≤ 40 ∧ ∀ s ∈ l, 0 < s.size ∧ s.size ≤ 12 := by
  unfold wordsE at h
  split at h
  · cases h
  · refine ⟨by omega, fun s hs => ?_⟩
    split at h
    · cases h
    · rename_i hb
      have h1 := List.any_eq_false.1 (Bool.not_eq_true _ ▸ hb) s hs
      unfold wordBad at h1
      simp at h1
      have : s.size ≠ 0 := fun e => h1.1 (by simpa using e)
      omega
theorem lgK_neg {l : List ByteArray} (hw : wordsE l = 0) (s : ByteArray) : lgK (buildL (bsL l)) (bs s) s.size < 0 ↔ lgN (buildL (bsL l)) (bs s) s.size = 0 := by
  obtain ⟨h1, h2, h3⟩ := lgN_spec (buildL (bsL l)) (bs s) s.size
  constructor
  · intro h
    rcases h2 with h2 | h2
    · exact h2
    · rw [lgK_spec, if_pos h2] at h; omega
  · intro h
    rw [lgK_spec, h, if_neg (by
      rw [buildL_find, ixF_mem, bsL_mem]
      rintro ⟨x, hx, he⟩
      have := (words_ok hw).2 x hx
      rw [← bs_len, he] at this
      simp at this)]
    omega
theorem find_at (l : List ByteArray) (s : ByteArray) : -1 ≤ ixF (bsL l) (bs s) ∧ ixF (bsL l) (bs s) < l.length := by
  have := ixF_ge (bsL l) (bs s)
  have hl : (bsL l).length = l.length := by unfold bsL; simp
  omega
theorem find_word {l : List ByteArray} {y : Nat} {x : ByteArray} (h : l[y]? = some x) : ∃ z : Nat, ixF (bsL l) (bs x) = (z : Int) ∧ z ≤ y ∧ l[z]? = some x := by
  have hq : (bsL l)[y]? = some (bs x) := by unfold bsL; rw [List.getElem?_map, h]; rfl
  obtain ⟨h1, h2⟩ := ixF_le _ _ _ hq
  obtain ⟨x2, h3, h4⟩ := bsL_get (ixF_at _ _ h1)
  exact ⟨(ixF (bsL l) (bs x)).toNat, by omega, by omega, by rw [h3, bs_inj h4]⟩
end Gno
end
/-! Tries of right words: the longest one, in a text of any length. -/
section
set_option maxRecDepth 100000
set_option linter.unusedVariables false
set_option linter.unusedSimpArgs false
namespace Gno
open Go Go.RowKit Go.Proofs.YtbbbeldbhlehnaaGreatDoor
theorem far_built {l : List ByteArray} (hw : wordsE l = 0) {u : List Nat} {m : Nat} (h : Far (buildL (bsL l)) u m) : m ≤ 12 := by
  obtain ⟨P, hP, hm, _⟩ := buildL_inv (bsL l)
  have h1 := h.2.1 m (Nat.le_refl _)
  have h0 : P[0]? = some [] := hP.zero
  rcases hP.go (u.take m) h0 with ⟨j, hj, _⟩ | ⟨_, hn⟩
  · have hmem : u.take m ∈ P := List.mem_of_getElem? (by simpa using hj)
    have hl : (u.take m).length = m := by rw [List.length_take]; have := h.1; omega
    rcases (hm _).1 hmem with he | ⟨w, hw2, hp⟩
    · rw [he] at hl; simp at hl; omega
    · obtain ⟨x, hx, rfl⟩ := bsL_mem.1 hw2
      have := hp.length_le
      rw [bs_len, hl] at this
      have := ((words_ok hw).2 x hx).2
      omega
  · rw [show ((0 : Nat) : Int) = 0 from rfl] at hn
    omega
end Gno
namespace Go.Proofs.YtbbbeldbhlehnaaGreatDoor
open Go.RowKit Gno
theorem longW_any {l : List ByteArray} (hw : wordsE l = 0) (A : Option Addr) (n cap : Nat) (s : ByteArray) (w : World) (hT : NodesAt w w.heap.size A n (buildL (bsL l))) :
    Calls Tryz.prog 60 #[.slice A n cap, .string s] w fun e w' => e = .returned (.tuple #[.int .i64 (lgK (buildL (bsL l)) (bs s) s.size), .int .i64 (lgN (buildL (bsL l)) (bs s) s.size), .int .i64 0]) ∧ Below w.heap.size w w' := by
  obtain ⟨m, hm⟩ := far_exists (t := buildL (bsL l)) (bs s)
  exact longT_ok _ A n cap s m (by have := far_built hw hm; omega) w hT (buildL_ok _) hm
end Go.Proofs.YtbbbeldbhlehnaaGreatDoor
namespace Gno
open Go Go.RowKit Go.Proofs.YtbbbeldbhlehnaaGreatDoor
/-- of a longer text. -/
theorem more_le (l : List ByteArray) (s b : ByteArray) : lgN (buildL (bsL l)) (bs s) s.size ≤ lgN (buildL (bsL l)) (bs (s ++ b)) (s ++ b).size := by
  obtain ⟨h1, h2, _⟩ := lgN_spec (buildL (bsL l)) (bs s) s.size
  obtain ⟨_, _, g3⟩ := lgN_spec (buildL (bsL l)) (bs (s ++ b)) (s ++ b).size
  rcases h2 with h2 | h2
  · omega
  · refine g3 _ (by rw [ByteArray.size_append]; omega) ?_
    have e : (bs (s ++ b)).take (lgN (buildL (bsL l)) (bs s) s.size) = (bs s).take (lgN (buildL (bsL l)) (bs s) s.size) := by
      have : bs (s ++ b) = bs s ++ bs b := by unfold bs; simp
      rw [this, List.take_append_of_le_length (by rw [bs_len]; omega)]
    rw [e]; exact h2
/-- of the word itself. -/
theorem self_is {l : List ByteArray} (hw : wordsE l = 0) (s : ByteArray) (N : Nat) (hN : N = lgN (buildL (bsL l)) (bs s) s.size) :
    lgN (buildL (bsL l)) (bs (s.extract 0 N)) (s.extract 0 N).size = N ∧ decide (0 ≤ lgK (buildL (bsL l)) (bs (s.extract 0 N)) (s.extract 0 N).size) = decide (0 < N) := by
  obtain ⟨h1, h2, _⟩ := lgN_spec (buildL (bsL l)) (bs s) s.size
  rw [← hN] at h1 h2
  have hz : (s.extract 0 N).size = N := by rw [ByteArray.size_extract]; omega
  have e : (bs (s.extract 0 N)).take N = (bs s).take N := by rw [bs_take, List.take_take, Nat.min_self]
  have hN2 : lgN (buildL (bsL l)) (bs (s.extract 0 N)) (s.extract 0 N).size = N := by
    obtain ⟨g1, _, g3⟩ := lgN_spec (buildL (bsL l)) (bs (s.extract 0 N)) (s.extract 0 N).size
    rcases h2 with h2 | h2
    · omega
    · have := g3 N (by omega) (by rw [e]; exact h2)
      omega
  refine ⟨hN2, ?_⟩
  have hk := lgK_neg hw (s.extract 0 N)
  rw [hN2] at hk
  rw [decide_eq_decide]
  omega
theorem bytesN_le (l : List ByteArray) : bytesN (bsL l) = (l.map ByteArray.size).sum := by
  induction l with
  | nil => rfl
  | cons x r ih =>
    show (bs x).length + bytesN (bsL r) = _
    rw [ih, bs_len]; simp
/-- what is left to be added up. -/
def sumF : List ByteArray → Nat → Nat
  | [], a => a
  | x :: r, a => sumF r (a + x.size)
theorem sumF_is : ∀ (l : List ByteArray) (a : Nat), sumF l a = a + bytesN (bsL l)
  | [], a => rfl
  | x :: r, a => by
    show sumF r (a + x.size) = a + ((bs x).length + bytesN (bsL r))
    rw [sumF_is r, bs_len]; omega
theorem nodes_few (l : List ByteArray) : (buildL (bsL l)).length ≤ sumF l 1 := by
  obtain ⟨_, _, _, h⟩ := buildL_inv (bsL l)
  rw [sumF_is]; exact h
end Gno
end
