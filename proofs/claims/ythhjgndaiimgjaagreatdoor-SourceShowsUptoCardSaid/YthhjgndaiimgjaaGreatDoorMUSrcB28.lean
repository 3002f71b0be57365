/- Parts of a proof, laid together. -/
import Derived.Laws.OwnMore
import Derived.Test.YthhjgndaiimgjaaGreatDoorMUSrcB14
import Derived.Test.YthhjgndaiimgjaaGreatDoorMUSrcB23
import Derived.Test.YthhjgndaiimgjaaGreatDoorMUSrcB25
set_option linter.unusedSimpArgs false
set_option linter.unusedVariables false
/-! The reader's memory: rows of names, each with a row of its own, apart from one another; data of such rows. -/
section
set_option maxRecDepth 100000
set_option linter.unusedVariables false
set_option linter.unusedSimpArgs false
namespace Gno
open Go Go.RowKit Go.Proofs.YthhjgndaiimgjaaGreatDoor
theorem flat_len {α : Type} {cf : α → List Value} {sz : Nat} (hc : ∀ x, (cf x).length = sz) (l : List α) : (l.flatMap cf).length = l.length * sz := by
  induction l with
  | nil => simp
  | cons a t ih => rw [List.flatMap_cons, List.length_append, ih, hc, List.length_cons, Nat.add_mul]; omega
theorem flat_get {α : Type} {cf : α → List Value} {sz : Nat} (hc : ∀ x, (cf x).length = sz) : ∀ (l : List α) (i : Nat) (x : α) (k : Nat), l[i]? = some x → k < sz → (l.flatMap cf)[i * sz + k]? = (cf x)[k]?
  | a :: t, 0, x, k, h, hk => by
    obtain rfl : a = x := by simpa using h
    rw [List.flatMap_cons, Nat.zero_mul, Nat.zero_add, List.getElem?_append_left (by rw [hc]; exact hk)]
  | a :: t, i + 1, x, k, h, hk => by
    have ih := flat_get hc t i x k (by simpa using h) hk
    rw [List.flatMap_cons, List.getElem?_append_right (by rw [hc, Nat.add_mul]; omega), hc, show (i + 1) * sz + k - sz = i * sz + k by rw [Nat.add_mul]; omega]
    exact ih
/-- rules and eras as cells. -/
def rlCells (r : Rl) : List Value := [.int .i64 r.fy, .int .i64 r.ty, .int .i64 r.mo, .int .i64 r.k, .int .i64 r.wk, .int .i64 r.d, .int .i64 r.a, .int .i64 r.sv, .string r.le]
def rls (l : List Rl) : List Value := l.flatMap rlCells
def erCells (x : Er) : List Value := [.int .i64 x.std, .int .i64 x.set, .int .i64 x.save, .string x.fmt, .int .i64 x.til]
def ers (l : List Er) : List Value := l.flatMap erCells
theorem rlCells_len (r : Rl) : (rlCells r).length = 9 := rfl
theorem erCells_len (r : Er) : (erCells r).length = 5 := rfl
theorem rls_len (l : List Rl) : (rls l).length = l.length * 9 := flat_len rlCells_len l
theorem ers_len (l : List Er) : (ers l).length = l.length * 5 := flat_len erCells_len l
theorem rls_snoc (l : List Rl) (r : Rl) : rls (l ++ [r]) = rls l ++ rlCells r := by unfold rls; simp
theorem ers_snoc (l : List Er) (r : Er) : ers (l ++ [r]) = ers l ++ erCells r := by unfold ers; simp
theorem lks_snoc (l : List Lk) (x : Lk) : lks (l ++ [x]) = lks l ++ lkCells x := by unfold lks; simp
theorem ow_form {w : World} {B : Nat} {e : TypeId} {sz n : Nat} {v : Value} {xs : List Value} (h : w.ownsRow B e sz v n xs) : ∃ A cap, v = .slice A n cap ∧ (0 < n → ∃ g, A = some ⟨g, 0, none⟩ ∧ B ≤ g ∧ g < w.heap.size) := by
  rcases h.2 with ⟨rfl, rfl⟩ | ⟨g, cap, cur, rfl, hB, hg, _⟩
  · exact ⟨none, 0, rfl, fun h => by omega⟩
  · exact ⟨some ⟨g, 0, none⟩, cap, rfl, fun _ => ⟨g, rfl, hB, (Array.getElem?_eq_some_iff.1 hg).1⟩⟩
theorem ow_cell {w : World} {B : Nat} {e : TypeId} {sz g n cap : Nat} {xs : List Value} (h : w.ownsRow B e sz (.slice (some ⟨g, 0, none⟩) n cap) n xs) {j : Nat} {u : Value} (hj : xs[j]? = some u) : w.cell? ⟨g, j, none⟩ = some u := by
  have := h.cells (g := g) rfl j u hj
  have hadd : (⟨g, 0, none⟩ : Addr).add j = ⟨g, j, none⟩ := by unfold Addr.add; split <;> simp_all
  rwa [hadd] at this
theorem ow_type {w : World} {B : Nat} {e : TypeId} {sz n : Nat} {v : Value} {xs : List Value} (h : w.ownsRow B e sz v n xs) {g : Nat} (hg : v.ownBlock = some g) : ∃ c, w.heap[g]? = some (.cells c e) := by
  rcases h.2 with ⟨rfl, _⟩ | ⟨g', cap, cur, rfl, _, hh, _⟩
  · simp [Value.ownBlock] at hg
  · simp [Value.ownBlock] at hg; subst hg; exact ⟨cur, hh⟩
/-- an own row of rules is a slice of rules; of eras; of links. -/
theorem rules_ow {w : World} {B n cap : Nat} {A : Option Addr} {l : List Rl} (h : w.ownsRow B 53 9 (.slice A n cap) n (rls l)) (hn : n ≤ maxLen) (hs : ∀ x ∈ l, x.le.size ≤ maxLen) : RulesAt w w.heap.size A n l := by
  have hl : l.length = n := by have := h.1; rw [rls_len] at this; omega
  refine ⟨hl, hn, fun h0 => ?_⟩
  obtain ⟨A', cap', e1, hf⟩ := ow_form h
  injection e1 with e1 _ e3
  subst e1
  obtain ⟨g, rfl, _, hlt⟩ := hf h0
  refine ⟨g, 0, rfl, hlt, fun i x hx => ⟨?_, hs x (List.mem_of_getElem? hx)⟩⟩
  have hc : ∀ k u, k < 9 → (rlCells x)[k]? = some u → w.cell? ⟨g, 0 + i * 9 + k, none⟩ = some u := fun k u hk hu => by
    rw [Nat.zero_add]
    exact ow_cell h (by unfold rls; rw [flat_get rlCells_len l i x k hx hk]; exact hu)
  exact ⟨hc 0 _ (by decide) rfl, hc 1 _ (by decide) rfl, hc 2 _ (by decide) rfl, hc 3 _ (by decide) rfl, hc 4 _ (by decide) rfl, hc 5 _ (by decide) rfl, hc 6 _ (by decide) rfl, hc 7 _ (by decide) rfl, hc 8 _ (by decide) rfl⟩
theorem eras_ow {w : World} {B n cap : Nat} {A : Option Addr} {l : List Er} (h : w.ownsRow B 59 5 (.slice A n cap) n (ers l)) (hn : n ≤ maxLen) (hs : ∀ x ∈ l, x.fmt.size ≤ fmtMax) : ErasAt w w.heap.size A n l := by
  have hl : l.length = n := by have := h.1; rw [ers_len] at this; omega
  refine ⟨hl, hn, fun h0 => ?_⟩
  obtain ⟨A', cap', e1, hf⟩ := ow_form h
  injection e1 with e1 _ e3
  subst e1
  obtain ⟨g, rfl, _, hlt⟩ := hf h0
  refine ⟨g, 0, rfl, hlt, fun i x hx => ⟨?_, hs x (List.mem_of_getElem? hx)⟩⟩
  have hc : ∀ k u, k < 5 → (erCells x)[k]? = some u → w.cell? ⟨g, 0 + i * 5 + k, none⟩ = some u := fun k u hk hu => by
    rw [Nat.zero_add]
    exact ow_cell h (by unfold ers; rw [flat_get erCells_len l i x k hx hk]; exact hu)
  exact ⟨hc 0 _ (by decide) rfl, hc 1 _ (by decide) rfl, hc 2 _ (by decide) rfl, hc 3 _ (by decide) rfl, hc 4 _ (by decide) rfl⟩
theorem links_ow {w : World} {B n cap : Nat} {A : Option Addr} {l : List Lk} (h : w.ownsRow B 61 2 (.slice A n cap) n (lks l)) (hn : n ≤ maxLen) (hs : ∀ x ∈ l, x.name.size ≤ maxLen ∧ x.to.size ≤ maxLen) : LinksAt w w.heap.size A n l := by
  by_cases h0 : 0 < n
  · obtain ⟨A', cap', e1, hf⟩ := ow_form h
    injection e1 with e1 _ e3
    subst e1
    obtain ⟨g, rfl, _, _⟩ := hf h0
    exact links_own h hn hs
  · obtain rfl : n = 0 := by omega
    have hl : l.length = 0 := by have := h.1; rw [lks_len] at this; omega
    exact ⟨hl, hn, fun h => absurd h (by omega)⟩
/-- a name with a row. -/
structure Pc where
  v : Value
  name : ByteArray
  n : Nat
  xs : List Value
def pcCells2 (p : Pc) : List Value := [.string p.name, p.v]
def rcs (l : List Pc) : List Value := l.flatMap pcCells2
theorem pcCells2_len (p : Pc) : (pcCells2 p).length = 2 := rfl
theorem rcs_snoc (l : List Pc) (p : Pc) : rcs (l ++ [p]) = rcs l ++ [.string p.name, p.v] := by unfold rcs; simp [pcCells2]
theorem rcs_len (l : List Pc) : (rcs l).length = l.length * 2 := flat_len pcCells2_len l
theorem rcs_set (l : List Pc) (p : Pc) (u : Value) : (rcs (l ++ [p])).set (l.length * 2 + 1) u = rcs (l ++ [⟨u, p.name, p.n, p.xs⟩]) := by
  rw [rcs_snoc, rcs_snoc, List.set_append_right _ _ (by rw [rcs_len]; omega), rcs_len, show l.length * 2 + 1 - l.length * 2 = 1 by omega]
  rfl
/-- all cells of a type stand. -/
def KeepT (T : TypeId) (w w' : World) : Prop := ∀ (k : Nat) (c : Array Value) (fz : Nat × Nat), w.heap[k]? = some (.cells c T fz) → w'.heap[k]? = some (.cells c T fz)
theorem KeepT.trans {T : TypeId} {a b c : World} (h : KeepT T a b) (k : KeepT T b c) : KeepT T a c := fun i x fz hi => k i x fz (h i x fz hi)
theorem keepT_below {T : TypeId} {w w' : World} (h : Below w.heap.size w w') : KeepT T w w' := fun k c fz hk => (h.block k (Array.getElem?_eq_some_iff.1 hk).1).trans hk
theorem keepT_set {T T2 : TypeId} {w : World} {b : Nat} {c : Array Value} {fz : Nat × Nat} (hb : w.heap[b]? = some (.cells c T2 fz)) (hT : T2 ≠ T) (i : Nat) (v : Value) : KeepT T w (w.setCell ⟨b, i, none⟩ v) := fun k c' fz' hk => (Below.heap_setCell w ⟨b, i, none⟩ v k (fun e => by
  have e : k = b := e
  subst e
  rw [hb] at hk
  injection hk with hk
  injection hk with _ e2
  exact hT e2)).trans hk
theorem keepT_grown {T T2 : TypeId} {w w' : World} {r : Option Nat} (hg : w.grownBy w' r) (hr : ∀ g, r = some g → ∃ c fz, w.heap[g]? = some (.cells c T2 fz)) (hT : T2 ≠ T) : KeepT T w w' := fun k c fz hk => (hg.block k (Array.getElem?_eq_some_iff.1 hk).1 (fun e => by
  obtain ⟨c', fz', h2⟩ := hr k e.symm
  rw [h2] at hk
  injection hk with hk
  injection hk with _ e2
  exact hT e2)).trans hk
theorem keepT_own {T e : TypeId} {w w' : World} {B sz n : Nat} {v : Value} {xs : List Value} (h : w.ownsRow B e sz v n xs) (hg : w.grownBy w' v.ownBlock) (hT : e ≠ T) : KeepT T w w' :=
  keepT_grown hg (fun g hgg => by obtain ⟨c, hc⟩ := ow_type h hgg; exact ⟨c, _, hc⟩) hT
theorem ow_keepT {w w' : World} {B : Nat} {e : TypeId} {sz n : Nat} {v : Value} {xs : List Value} (h : w.ownsRow B e sz v n xs) (hk : KeepT e w w') : w'.ownsRow B e sz v n xs := by
  refine ⟨h.1, ?_⟩
  rcases h.2 with h2 | ⟨g, cap, cur, e1, hb, hg, r⟩
  · exact .inl h2
  · exact .inr ⟨g, cap, cur, e1, hb, hk _ _ _ hg, r⟩
theorem ow_base {w : World} {B C : Nat} {e : TypeId} {sz n : Nat} {v : Value} {xs : List Value} (h : w.ownsRow B e sz v n xs) (hC : C ≤ B) : w.ownsRow C e sz v n xs := by
  refine ⟨h.1, ?_⟩
  rcases h.2 with h2 | ⟨g, cap, cur, e1, hb, r⟩
  · exact .inl h2
  · exact .inr ⟨g, cap, cur, e1, by omega, r⟩
/-- the names' row, each one's own row, these apart. -/
structure RO (eo ei : TypeId) (sz B : Nat) (w : World) (v : Value) (ps : List Pc) : Prop where
  row : w.ownsRow B eo 2 v ps.length (rcs ps)
  edge : ∀ (i : Nat) p, ps[i]? = some p → w.ownsRow B ei sz p.v p.n p.xs
  pair : ∀ (i j : Nat) p q, i ≠ j → ps[i]? = some p → ps[j]? = some q → Apart p.v q.v
theorem RO.nil (eo ei : TypeId) (sz B : Nat) (w : World) : RO eo ei sz B w (.slice none 0 0) [] := ⟨World.ownsRow_nil _ _ _ _, fun i p h => by simp at h, fun i j p q _ h => by simp at h⟩
theorem RO.keep {eo ei : TypeId} {sz B : Nat} {w w' : World} {v : Value} {ps : List Pc} (h : RO eo ei sz B w v ps) (ho : KeepT eo w w') (hi : KeepT ei w w') : RO eo ei sz B w' v ps :=
  ⟨ow_keepT h.row ho, fun i p hp => ow_keepT (h.edge i p hp) hi, h.pair⟩
theorem snoc_get {α : Type} {l : List α} {x y : α} {i : Nat} (h : (l ++ [x])[i]? = some y) : l[i]? = some y ∨ (i = l.length ∧ x = y) := by
  by_cases hi : i < l.length
  · rw [List.getElem?_append_left hi] at h; exact .inl h
  · rw [List.getElem?_append_right (by omega)] at h
    by_cases he : i = l.length
    · rw [he, Nat.sub_self] at h
      exact .inr ⟨he, by simpa using h⟩
    · have : i - l.length ≠ 0 := by omega
      rw [List.getElem?_eq_none (by simp; omega)] at h
      cases h
/-- one more name, with nothing. -/
theorem RO.push {eo ei : TypeId} {sz B : Nat} {w w' : World} {v v' : Value} {ps : List Pc} {nm : ByteArray} (h : RO eo ei sz B w v ps) (hne : eo ≠ ei) (hown : w'.ownsRow B eo 2 v' (ps.length + 1) (rcs ps ++ [.string nm, .slice none 0 0])) (hg : w.grownBy w' v.ownBlock) :
    RO eo ei sz B w' v' (ps ++ [⟨.slice none 0 0, nm, 0, []⟩]) := by
  have hk : KeepT ei w w' := keepT_own h.row hg hne
  refine ⟨?_, fun i q hq => ?_, fun i j p q hij hp hq => ?_⟩
  · rw [List.length_append, rcs_snoc]; exact hown
  · rcases snoc_get hq with hq | ⟨_, rfl⟩
    · exact ow_keepT (h.edge i q hq) hk
    · exact World.ownsRow_nil _ _ _ _
  · rcases snoc_get hp with hp | ⟨rfl, rfl⟩ <;> rcases snoc_get hq with hq | ⟨rfl, rfl⟩
    · exact h.pair i j p q hij hp hq
    · exact (Apart.nil _).symm
    · exact Apart.nil _
    · exact absurd rfl hij
/-- one more behind the last one's row. -/
theorem RO.onto {eo ei : TypeId} {sz B g cap : Nat} {w w1 : World} {u : Value} {ps : List Pc} {p : Pc} {new : List Value} (h : RO eo ei sz B w (.slice (some ⟨g, 0, none⟩) (ps.length + 1) cap) (ps ++ [p])) (hne : eo ≠ ei)
    (hown : w1.ownsRow B ei sz u (p.n + 1) (p.xs ++ new)) (hg : w.grownBy w1 p.v.ownBlock) (hn : NearOr w p.v u) :
    RO eo ei sz B (w1.setCell ⟨g, ps.length * 2 + 1, none⟩ u) (.slice (some ⟨g, 0, none⟩) (ps.length + 1) cap) (ps ++ [⟨u, p.name, p.n + 1, p.xs ++ new⟩]) := by
  have hl : (ps ++ [p]).length = ps.length + 1 := by simp
  have hp : (ps ++ [p])[ps.length]? = some p := by simp
  have hrow := h.row
  rw [hl] at hrow
  have hrow1 : w1.ownsRow B eo 2 (.slice (some ⟨g, 0, none⟩) (ps.length + 1) cap) (ps.length + 1) (rcs (ps ++ [p])) := ow_keepT hrow (keepT_own (h.edge _ _ hp) hg (fun e => hne e.symm))
  obtain ⟨c, hc⟩ := ow_type hrow1 (g := g) rfl
  have hk2 : KeepT ei w1 (w1.setCell ⟨g, ps.length * 2 + 1, none⟩ u) := keepT_set hc hne _ _
  have old : ∀ (i : Nat) q, ps[i]? = some q → w1.ownsRow B ei sz q.v q.n q.xs ∧ Apart u q.v := fun i q hq => by
    have hi := (List.getElem?_eq_some_iff.1 hq).1
    have hq2 : (ps ++ [p])[i]? = some q := by rw [List.getElem?_append_left hi]; exact hq
    exact own_apart (h.edge i q hq2) hg (h.pair _ _ _ _ (by omega) hp hq2) hn
  refine ⟨?_, fun i q hq => ?_, fun i j a b hij ha hb => ?_⟩
  · have := hrow1.stored (ps.length * 2 + 1) u
    rw [rcs_set] at this
    rw [List.length_append]
    rw [rcs_snoc] at this ⊢
    exact this.1
  · rcases snoc_get hq with hq | ⟨_, rfl⟩
    · exact ow_keepT (old i q hq).1 hk2
    · exact ow_keepT hown hk2
  · rcases snoc_get ha with ha | ⟨rfl, rfl⟩ <;> rcases snoc_get hb with hb | ⟨rfl, rfl⟩
    · have h1 := (List.getElem?_eq_some_iff.1 ha).1
      have h2 := (List.getElem?_eq_some_iff.1 hb).1
      exact h.pair i j a b hij (by rw [List.getElem?_append_left h1]; exact ha) (by rw [List.getElem?_append_left h2]; exact hb)
    · exact (old i a ha).2.symm
    · exact (old j b hb).2
    · exact absurd rfl hij
end Gno
end
