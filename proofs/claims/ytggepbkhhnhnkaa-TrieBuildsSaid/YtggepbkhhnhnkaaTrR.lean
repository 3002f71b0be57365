/- A trie of the call's own, in memory: each node's edges lie in a row of their own. -/
import Derived.Test.YtggepbkhhnhnkaaTrO
set_option linter.unusedVariables false
set_option linter.unusedSimpArgs false
namespace Gno
open Go Go.RowKit Go.Proofs.Ytggepbkhhnhnkaa
/-- nodes as cells: the slice of the edges, the Word. -/
def pcCells (p : Value × Nd) : List Value := [p.1, .int .i64 p.2.word]
def pcs (l : List (Value × Nd)) : List Value := l.flatMap pcCells
theorem pcs_cons (p : Value × Nd) (l : List (Value × Nd)) : pcs (p :: l) = p.1 :: .int .i64 p.2.word :: pcs l := rfl
theorem pcs_app (l m : List (Value × Nd)) : pcs (l ++ m) = pcs l ++ pcs m := by unfold pcs; simp
theorem pcs_len (l : List (Value × Nd)) : (pcs l).length = l.length * 2 := by
  induction l with
  | nil => rfl
  | cons a t ih => rw [pcs_cons, List.length_cons, List.length_cons, ih, List.length_cons]; omega
theorem pcs_get : ∀ (l : List (Value × Nd)) (i : Nat) (p : Value × Nd), l[i]? = some p → (pcs l)[i * 2]? = some p.1 ∧ (pcs l)[i * 2 + 1]? = some (.int .i64 p.2.word)
  | a :: t, 0, p, h => by
    obtain rfl : a = p := by simpa using h
    exact ⟨rfl, rfl⟩
  | a :: t, i + 1, p, h => by
    have ih := pcs_get t i p (by simpa using h)
    rw [pcs_cons, show (i + 1) * 2 = i * 2 + 1 + 1 by omega]
    simp only [List.getElem?_cons_succ]
    exact ih
theorem pcs_set0 : ∀ (l : List (Value × Nd)) (i : Nat) (p q : Value × Nd), l[i]? = some p → q.2.word = p.2.word → (pcs l).set (i * 2) q.1 = pcs (l.set i q)
  | a :: t, 0, p, q, h, hw => by
    obtain rfl : a = p := by simpa using h
    show _ = pcs (q :: t)
    rw [pcs_cons, pcs_cons, hw]
    rfl
  | a :: t, i + 1, p, q, h, hw => by
    rw [pcs_cons, show (i + 1) * 2 = i * 2 + 1 + 1 by omega, List.set_cons_succ, List.set_cons_succ, List.set_cons_succ, pcs_cons, pcs_set0 t i p q (by simpa using h) hw]
theorem pcs_set1 : ∀ (l : List (Value × Nd)) (i : Nat) (p q : Value × Nd), l[i]? = some p → q.1 = p.1 → (pcs l).set (i * 2 + 1) (.int .i64 q.2.word) = pcs (l.set i q)
  | a :: t, 0, p, q, h, hw => by
    obtain rfl : a = p := by simpa using h
    rw [pcs_cons, List.set_cons_zero, pcs_cons, hw]
    rfl
  | a :: t, i + 1, p, q, h, hw => by
    rw [pcs_cons, show (i + 1) * 2 + 1 = i * 2 + 1 + 1 + 1 by omega, List.set_cons_succ, List.set_cons_succ, List.set_cons_succ, pcs_cons, pcs_set1 t i p q (by simpa using h) hw]
theorem pcs_one {l : List (Value × Nd)} (h : ∀ p ∈ l, p.1.oneCell' = true) : ∀ u ∈ pcs l, u.oneCell' = true := by
  intro u hu
  unfold pcs at hu
  obtain ⟨p, hp, hx⟩ := List.mem_flatMap.1 hu
  simp [pcCells] at hx
  rcases hx with rfl | rfl
  · exact h p hp
  · rfl
end Gno
namespace Go.Proofs.Ytggepbkhhnhnkaa
open Go.RowKit Gno
theorem infoNode : (Try.prog.info? 49).map (fun i => (i.zero, i.size, i.bytes)) = some (some (.agg #[.slice none 0 0, .int .i64 0]), 2, 32) := by kernel_rfl
/-- an own row, one of its cells set. -/
theorem own_setCell {w : World} {B : Nat} {e : TypeId} {sz g n cap : Nat} {xs : List Value} (h : w.ownsRow B e sz (.slice (some ⟨g, 0, none⟩) n cap) n xs) (j : Nat) (hj : j < n * sz) (u : Value) :
    (w.setCell ⟨g, j, none⟩ u).ownsRow B e sz (.slice (some ⟨g, 0, none⟩) n cap) n (xs.set j u) := by
  refine ⟨by rw [List.length_set]; exact h.1, .inr ?_⟩
  rcases h.2 with ⟨e1, _⟩ | ⟨g', cap', cur, e1, hb, hg, hnc, hcm, hcs, ht⟩
  · cases e1
  · injection e1 with e1 _ e3
    injection e1 with e1
    injection e1 with e1 _ _
    subst e1
    subst e3
    refine ⟨g, cap, cur.setIfInBounds j u, rfl, hb, ?_, hnc, hcm, by simpa using hcs, ?_⟩
    · have hlt := lt_of_block hg
      have h' : w.heap[g] = .cells cur e (0, 0) := by simpa [Array.getElem?_eq_getElem hlt] using hg
      show (w.heap.modify g _)[g]? = _
      rw [Array.getElem?_eq_getElem (by simpa using hlt), Array.getElem_modify_self, h']
      rfl
    · rw [← ht, Array.toList_setIfInBounds, List.take_set]
theorem own_cell {w : World} {B : Nat} {e : TypeId} {sz g n cap : Nat} {xs : List Value} (h : w.ownsRow B e sz (.slice (some ⟨g, 0, none⟩) n cap) n xs) {j : Nat} {u : Value} (hj : xs[j]? = some u) : w.cell? ⟨g, j, none⟩ = some u := by
  have := h.cells (g := g) rfl j u hj
  rwa [addLit, Nat.zero_add] at this
theorem own_free {w : World} {B : Nat} {e : TypeId} {sz g n cap : Nat} {xs : List Value} (h : w.ownsRow B e sz (.slice (some ⟨g, 0, none⟩) n cap) n xs) (j : Nat) : w.frozen? ⟨g, j, none⟩ = false := by
  rcases h.2 with ⟨e1, _⟩ | ⟨g', cap', cur, e1, hb, hg, _⟩
  · cases e1
  · injection e1 with e1 _ _
    injection e1 with e1
    injection e1 with e1 _ _
    subst e1
    simp [World.frozen?, hg]
/-- the trie that a call builds: the nodes' row, each node's edges, all apart. -/
structure TOwn (B : Nat) (w : World) (v : Value) (ps : List (Value × Nd)) : Prop where
  row : w.ownsRow B 49 2 v ps.length (pcs ps)
  edge : ∀ (i : Nat) p, ps[i]? = some p → w.ownsRow B 54 2 p.1 p.2.es.length (eds p.2.es)
  apart : ∀ (i : Nat) p, ps[i]? = some p → Apart v p.1
  apart2 : ∀ (i j : Nat) p q, i ≠ j → ps[i]? = some p → ps[j]? = some q → Apart p.1 q.1
  small : ∀ (i : Nat) p, ps[i]? = some p → ∀ e ∈ p.2.es, e.c ≤ 255
theorem own_form {w : World} {B : Nat} {e : TypeId} {sz n : Nat} {v : Value} {xs : List Value} (h : w.ownsRow B e sz v n xs) : ∃ A cap, v = .slice A n cap ∧ (0 < n → ∃ g, A = some ⟨g, 0, none⟩ ∧ g < w.heap.size) := by
  rcases h.2 with ⟨rfl, rfl⟩ | ⟨g, cap, cur, rfl, _, hg, _⟩
  · exact ⟨none, 0, rfl, fun h => by omega⟩
  · exact ⟨_, cap, rfl, fun _ => ⟨g, rfl, lt_of_block hg⟩⟩
/-- an own row of edges, read. -/
theorem edges_own {w : World} {B n : Nat} {A : Option Addr} {cap : Nat} {l : List Eg} (h : w.ownsRow B 54 2 (.slice A n cap) n (eds l)) (hn : n ≤ maxLen) (hs : ∀ e ∈ l, e.c ≤ 255) : EdgesAt w w.heap.size A n l := by
  have hl : l.length = n := by have := h.1; rw [eds_len] at this; omega
  refine ⟨hl, hn, fun hp => ?_⟩
  obtain ⟨A', cap', e1, hf⟩ := own_form h
  injection e1 with e1 _ e3
  subst e1
  obtain ⟨g, rfl, hlt⟩ := hf hp
  refine ⟨g, 0, rfl, hlt, fun i x hx => ?_⟩
  have hd := eds_drop l i
  have hdr := drop_at hx
  have h0 : (eds l)[i * 2]? = some (.int .u8 x.c) := by
    have := List.getElem?_drop (xs := eds l) (i := i * 2) (j := 0)
    rw [hd, hdr, eds_cons] at this
    simpa [edCells] using this.symm
  have h1 : (eds l)[i * 2 + 1]? = some (.int .i64 x.to) := by
    have := List.getElem?_drop (xs := eds l) (i := i * 2) (j := 1)
    rw [hd, hdr, eds_cons] at this
    simpa [edCells] using this.symm
  exact ⟨⟨by rw [Nat.zero_add]; exact own_cell h h0, by rw [Nat.zero_add]; exact own_cell h h1⟩, hs x (List.mem_of_getElem? hx)⟩
/-- nothing of it has turned. -/
theorem TOwn.kept {B : Nat} {w w' : World} {v : Value} {ps : List (Value × Nd)} (h : TOwn B w v ps) (hg : w.grownBy w' none) : TOwn B w' v ps := by
  have kk : ∀ {e : TypeId} {sz n : Nat} {u : Value} {xs : List Value}, w.ownsRow B e sz u n xs → w'.ownsRow B e sz u n xs := fun {e sz n u xs} ho => ho.kept hg (by
    cases u.ownBlock with
    | none => exact .inl rfl
    | some k => exact .inr (by simp))
  exact ⟨kk h.row, fun i p hp => kk (h.edge i p hp), h.apart, h.apart2, h.small⟩
theorem grown_of_below {w w' : World} (h : Below w.heap.size w w') : w.grownBy w' none := ⟨h.os, h.tape, h.output, h.size, fun k hk _ => h.block k hk⟩
/-- a node, read. -/
theorem TOwn.node {B : Nat} {w : World} {v : Value} {ps : List (Value × Nd)} (h : TOwn B w v ps) {i : Nat} {p : Value × Nd} (hp : ps[i]? = some p) :
    ∃ g cap A2 c2, v = .slice (some ⟨g, 0, none⟩) ps.length cap ∧ g < w.heap.size ∧ p.1 = .slice A2 p.2.es.length c2 ∧ w.cell? ⟨g, i * 2, none⟩ = some (.slice A2 p.2.es.length c2) ∧ w.cell? ⟨g, i * 2 + 1, none⟩ = some (.int .i64 p.2.word) ∧ w.frozen? ⟨g, i * 2, none⟩ = false ∧ w.frozen? ⟨g, i * 2 + 1, none⟩ = false := by
  have hi := (List.getElem?_eq_some_iff.1 hp).1
  obtain ⟨A, cap, rfl, hf⟩ := own_form h.row
  obtain ⟨g, rfl, hlt⟩ := hf (by omega)
  obtain ⟨A2, c2, he, _⟩ := own_form (h.edge i p hp)
  obtain ⟨k0, k1⟩ := pcs_get ps i p hp
  exact ⟨g, cap, A2, c2, rfl, hlt, he, by rw [← he]; exact own_cell h.row k0, own_cell h.row k1, own_free h.row _, own_free h.row _⟩
/-- the whole of it, read. -/
theorem TOwn.nodes {B : Nat} {w : World} {v : Value} {ps : List (Value × Nd)} (h : TOwn B w v ps) (hn : ps.length ≤ maxLen) (hm : ∀ (i : Nat) p, ps[i]? = some p → p.2.es.length ≤ maxLen) :
    ∃ A cap, v = .slice A ps.length cap ∧ NodesAt w w.heap.size A ps.length (ps.map (·.2)) := by
  obtain ⟨A, cap, rfl, hf⟩ := own_form h.row
  refine ⟨A, cap, rfl, by simp, hn, fun hp => ?_⟩
  obtain ⟨g, rfl, hlt⟩ := hf hp
  refine ⟨g, 0, rfl, hlt, fun i x hx => ?_⟩
  rw [List.getElem?_map] at hx
  cases hq : ps[i]? with
  | none => rw [hq] at hx; cases hx
  | some p =>
    rw [hq] at hx
    simp at hx
    subst hx
    obtain ⟨g', cap', A2, c2, e1, _, he, k0, k1, _, _⟩ := h.node hq
    injection e1 with e1 _ _
    injection e1 with e1
    injection e1 with e1 _ _
    subst e1
    have ho := h.edge i p hq
    rw [he] at ho
    exact ⟨A2, c2, by rw [Nat.zero_add]; exact k0, by rw [Nat.zero_add]; exact k1, edges_own ho (hm i p hq) (h.small i p hq)⟩
theorem get_set {α : Type} {l : List α} {a i : Nat} {x y : α} (h : (l.set a x)[i]? = some y) : (i = a ∧ x = y) ∨ (i ≠ a ∧ l[i]? = some y) := set_get h
/-- a node's Word set. -/
theorem TOwn.setWord {B : Nat} {w : World} {g cap : Nat} {ps : List (Value × Nd)} (h : TOwn B w (.slice (some ⟨g, 0, none⟩) ps.length cap) ps) {a : Nat} {p : Value × Nd} (hp : ps[a]? = some p) (k : Int) :
    TOwn B (w.setCell ⟨g, a * 2 + 1, none⟩ (.int .i64 k)) (.slice (some ⟨g, 0, none⟩) ps.length cap) (ps.set a (p.1, ⟨p.2.es, k⟩)) := by
  have ha := (List.getElem?_eq_some_iff.1 hp).1
  have hl : (ps.set a (p.1, (⟨p.2.es, k⟩ : Nd))).length = ps.length := List.length_set ..
  have hk : ∀ (i : Nat) q, (ps.set a (p.1, (⟨p.2.es, k⟩ : Nd)))[i]? = some q → ∃ q', ps[i]? = some q' ∧ q.1 = q'.1 ∧ q.2.es = q'.2.es := fun i q hq => by
    rcases set_get hq with ⟨rfl, rfl⟩ | ⟨_, hq⟩
    · exact ⟨p, hp, rfl, rfl⟩
    · exact ⟨q, hq, rfl, rfl⟩
  refine ⟨?_, fun i q hq => ?_, fun i q hq => ?_, fun i j q r hij hq hr => ?_, fun i q hq => ?_⟩
  · rw [hl, ← pcs_set1 ps a p (p.1, ⟨p.2.es, k⟩) hp rfl]
    exact own_setCell h.row _ (by omega) _
  · obtain ⟨q', h1, h2, h3⟩ := hk i q hq
    rw [h2, h3]
    exact ownsRow_setCell_other (h.edge i q' h1) (fun e => h.apart i q' h1 g rfl e) _
  · obtain ⟨q', h1, h2, _⟩ := hk i q hq
    rw [h2]; exact h.apart i q' h1
  · obtain ⟨q', h1, h2, _⟩ := hk i q hq
    obtain ⟨r', g1, g2, _⟩ := hk j r hr
    rw [h2, g2]; exact h.apart2 i j q' r' hij h1 g1
  · obtain ⟨q', h1, _, h3⟩ := hk i q hq
    rw [h3]; exact h.small i q' h1
/-- a node's edges set anew: what came out of w as w' turned that node's row alone. -/
theorem TOwn.setEdges {B : Nat} {w w' : World} {g cap : Nat} {ps : List (Value × Nd)} (h : TOwn B w (.slice (some ⟨g, 0, none⟩) ps.length cap) ps) {a : Nat} {p : Value × Nd} (hp : ps[a]? = some p) (v' : Value) (ys : List Eg)
    (hown : w'.ownsRow B 54 2 v' ys.length (eds ys)) (hg : w.grownBy w' p.1.ownBlock) (hn : NearOr w p.1 v') (hs : ∀ e ∈ ys, e.c ≤ 255) :
    TOwn B (w'.setCell ⟨g, a * 2, none⟩ v') (.slice (some ⟨g, 0, none⟩) ps.length cap) (ps.set a (v', ⟨ys, p.2.word⟩)) := by
  have ha := (List.getElem?_eq_some_iff.1 hp).1
  have hl : (ps.set a (v', (⟨ys, p.2.word⟩ : Nd))).length = ps.length := List.length_set ..
  have hrow := own_apart h.row hg (h.apart a p hp).symm hn
  have hedge : ∀ (i : Nat) q, i ≠ a → ps[i]? = some q → w'.ownsRow B 54 2 q.1 q.2.es.length (eds q.2.es) ∧ Apart v' q.1 := fun i q hi hq => own_apart (h.edge i q hq) hg (h.apart2 a i p q (fun e => hi e.symm) hp hq) hn
  refine ⟨?_, fun i q hq => ?_, fun i q hq => ?_, fun i j q r hij hq hr => ?_, fun i q hq => ?_⟩
  · rw [hl, ← pcs_set0 ps a p (v', ⟨ys, p.2.word⟩) hp rfl]
    exact own_setCell hrow.1 _ (by omega) _
  · rcases set_get hq with ⟨rfl, rfl⟩ | ⟨hi, hq⟩
    · exact ownsRow_setCell_other hown (fun e => hrow.2 g e rfl) _
    · exact ownsRow_setCell_other (hedge i q hi hq).1 (fun e => h.apart i q hq g rfl e) _
  · rcases set_get hq with ⟨rfl, rfl⟩ | ⟨hi, hq⟩
    · exact hrow.2.symm
    · exact h.apart i q hq
  · rcases set_get hq with ⟨hi, rfl⟩ | ⟨hi, hq⟩ <;> rcases set_get hr with ⟨hj, rfl⟩ | ⟨hj, hr⟩
    · omega
    · exact (hedge j r hj hr).2
    · exact (hedge i q hi hq).2.symm
    · exact h.apart2 i j q r hij hq hr
  · rcases set_get hq with ⟨rfl, rfl⟩ | ⟨hi, hq⟩
    · exact hs
    · exact h.small i q hq
/-- a node more. -/
theorem TOwn.push {B : Nat} {w w' : World} {v v' : Value} {ps : List (Value × Nd)} (h : TOwn B w v ps) (hown : w'.ownsRow B 49 2 v' (ps.length + 1) (pcs ps ++ [.slice none 0 0, .int .i64 (-1)])) (hg : w.grownBy w' v.ownBlock) (hn : NearOr w v v') :
    TOwn B w' v' (ps ++ [(.slice none 0 0, ⟨[], -1⟩)]) := by
  have hedge : ∀ (i : Nat) q, ps[i]? = some q → w'.ownsRow B 54 2 q.1 q.2.es.length (eds q.2.es) ∧ Apart v' q.1 := fun i q hq => own_apart (h.edge i q hq) hg (h.apart i q hq) hn
  refine ⟨?_, fun i q hq => ?_, fun i q hq => ?_, fun i j q r hij hq hr => ?_, fun i q hq => ?_⟩
  · rw [List.length_append, pcs_app]; exact hown
  · rcases get_snoc hq with hq | ⟨_, rfl⟩
    · exact (hedge i q hq).1
    · exact World.ownsRow_nil _ _ _ _
  · rcases get_snoc hq with hq | ⟨_, rfl⟩
    · exact (hedge i q hq).2
    · exact (Apart.nil v').symm
  · rcases get_snoc hq with hq | ⟨hi, rfl⟩ <;> rcases get_snoc hr with hr | ⟨hj, rfl⟩
    · exact h.apart2 i j q r hij hq hr
    · exact (Apart.nil q.1).symm
    · exact Apart.nil r.1
    · exact Apart.nil _
  · rcases get_snoc hq with hq | ⟨_, rfl⟩
    · exact h.small i q hq
    · intro e he; cases he
/-- the first node, laid. -/
theorem TOwn.start (w : World) (B : Nat) (hB : B ≤ w.heap.size) : TOwn B (w.alloc (.cells #[.slice none 0 0, .int .i64 (-1)] 49)) (.slice (some ⟨w.heap.size, 0, none⟩) 1 1) [(.slice none 0 0, ⟨[], -1⟩)] := by
  refine ⟨⟨rfl, .inr ⟨w.heap.size, 1, _, rfl, hB, World.alloc_heap_new w _, Nat.le_refl _, by unfold maxLen; omega, rfl, rfl⟩⟩, fun i q hq => ?_, fun i q hq => ?_, fun i j q r hij hq hr => ?_, fun i q hq => ?_⟩
  · rcases get_snoc (l := []) hq with hq | ⟨_, rfl⟩
    · simp at hq
    · exact World.ownsRow_nil _ _ _ _
  · rcases get_snoc (l := []) hq with hq | ⟨_, rfl⟩
    · simp at hq
    · exact (Apart.nil _).symm
  · have := (List.getElem?_eq_some_iff.1 hq).1
    have := (List.getElem?_eq_some_iff.1 hr).1
    simp at *
    omega
  · rcases get_snoc (l := []) hq with hq | ⟨_, rfl⟩
    · simp at hq
    · intro e he; cases he
end Go.Proofs.Ytggepbkhhnhnkaa
