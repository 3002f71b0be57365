/- The reference's reader: its worlds between two rounds, and what a round brings. -/
import Derived.Test.YthhjgndaiimgjaaGreatDoorMUSrcB30
import Derived.Test.YthhjgndaiimgjaaGreatDoorMUSrcB31
import Derived.Test.YthhjgndaiimgjaaGreatDoorQSgS
import Derived.Test.YthhjgndaiimgjaaGreatDoorMUSrcB0
set_option linter.unusedSimpArgs false
set_option linter.unusedVariables false
set_option linter.unusedVariables false
set_option linter.unusedSimpArgs false
set_option maxRecDepth 100000
namespace Gno
open Go Go.RowKit Go.Proofs.YthhjgndaiimgjaaGreatDoor
theorem getD_len {ws : List Bt} {k n : Nat} (h : ∀ x ∈ ws, x.length ≤ n) : (ws.getD k []).length ≤ n := by
  rw [List.getD_eq_getElem?_getD]
  cases hk : ws[k]? with
  | none => simp
  | some x => exact h x (List.mem_of_getElem? hk)
theorem wLet_len {x : Bt} {n : Nat} (h : x.length ≤ n) : (wLet x).length ≤ n := by
  unfold wLet
  split
  · simp
  · exact h
theorem onto_cases {α β : Type} (l : List (α × List β)) (x : β) : (l = [] ∧ ontoLast l x = []) ∨ ∃ l0 a xs, l = l0 ++ [(a, xs)] ∧ ontoLast l x = l0 ++ [(a, xs ++ [x])] := by
  by_cases h : l = []
  · subst h; exact .inl ⟨rfl, rfl⟩
  · obtain ⟨l0, ⟨a, xs⟩, e⟩ := last_form h
    exact .inr ⟨l0, a, xs, e, by rw [e, onto_snoc]⟩
theorem ontoS_cnz {n : Nat} {c : Cn} {r : List Int × Bt} (h : CnZ n c) (h8 : r.1.length = 8) (hl : r.2.length ≤ 5000) : CnZ (n + 1) { c with ss := ontoLast c.ss r } := by
  have H := h.up (Nat.le_succ n)
  rcases onto_cases c.ss r with ⟨e0, e⟩ | ⟨l0, a, xs, e0, e⟩
  · rw [e]
    exact ⟨⟨by simp, h.formed.2⟩, by simp, H.zs, H.ls, by simp, H.zones, H.links⟩
  · rw [e]
    have hz1 := h.sets (a, xs) (by rw [e0]; simp)
    have hf1 := h.formed.1 (a, xs) (by rw [e0]; simp)
    have hl1 := h.ss
    rw [e0] at hl1
    refine ⟨⟨fun s hs => ?_, h.formed.2⟩, by simp at hl1 ⊢; omega, H.zs, H.ls, fun s hs => ?_, H.zones, H.links⟩
    · rcases List.mem_append.1 hs with q | q
      · exact h.formed.1 s (by rw [e0]; exact List.mem_append_left _ q)
      · obtain rfl := List.mem_singleton.1 q
        intro r hr
        rcases List.mem_append.1 hr with q | q
        · exact hf1 r q
        · obtain rfl := List.mem_singleton.1 q
          exact h8
    · rcases List.mem_append.1 hs with q | q
      · exact H.sets s (by rw [e0]; exact List.mem_append_left _ q)
      · obtain rfl := List.mem_singleton.1 q
        refine ⟨hz1.1, by have := hz1.2.1; simpa using this, fun r hr => ?_⟩
        rcases List.mem_append.1 hr with q | q
        · exact hz1.2.2 r q
        · obtain rfl := List.mem_singleton.1 q
          exact hl
theorem ontoZ_cnz {n : Nat} {c : Cn} {r : List Int × Bt × Int} (h : CnZ n c) (h3 : r.1.length = 3) (hl : r.2.1.length ≤ 5000) : CnZ (n + 1) { c with zs := ontoLast c.zs r } := by
  have H := h.up (Nat.le_succ n)
  rcases onto_cases c.zs r with ⟨e0, e⟩ | ⟨l0, a, xs, e0, e⟩
  · rw [e]
    exact ⟨⟨h.formed.1, by simp⟩, H.ss, by simp, H.ls, H.sets, by simp, H.links⟩
  · rw [e]
    have hz1 := h.zones (a, xs) (by rw [e0]; simp)
    have hf1 := h.formed.2 (a, xs) (by rw [e0]; simp)
    have hl1 := h.zs
    rw [e0] at hl1
    refine ⟨⟨h.formed.1, fun s hs => ?_⟩, H.ss, by simp at hl1 ⊢; omega, H.ls, H.sets, fun s hs => ?_, H.links⟩
    · rcases List.mem_append.1 hs with q | q
      · exact h.formed.2 s (by rw [e0]; exact List.mem_append_left _ q)
      · obtain rfl := List.mem_singleton.1 q
        intro r hr
        rcases List.mem_append.1 hr with q | q
        · exact hf1 r q
        · obtain rfl := List.mem_singleton.1 q
          exact h3
    · rcases List.mem_append.1 hs with q | q
      · exact H.zones s (by rw [e0]; exact List.mem_append_left _ q)
      · obtain rfl := List.mem_singleton.1 q
        refine ⟨hz1.1, by have := hz1.2.1; simpa using this, fun r hr => ?_⟩
        rcases List.mem_append.1 hr with q | q
        · exact hz1.2.2 r q
        · obtain rfl := List.mem_singleton.1 q
          exact hl
theorem stepR_cnz {n : Nat} {c : Cn} {ws : List Bt} (h : CnZ n c) (hw : ∀ x ∈ ws, x.length ≤ 5000) : CnZ (n + 1) (stepR sdI c ws) := by
  have H := h.up (Nat.le_succ n)
  have hg : ∀ k, (ws.getD k []).length ≤ 5000 := fun k => getD_len hw
  unfold stepR
  simp only
  split
  · refine ⟨⟨fun s hs => ?_, h.formed.2⟩, by have := h.ss; simpa using this, H.zs, H.ls, fun s hs => ?_, H.zones, H.links⟩
    · rcases List.mem_append.1 hs with q | q
      · exact h.formed.1 s q
      · obtain rfl := List.mem_singleton.1 q
        simp
    · rcases List.mem_append.1 hs with q | q
      · exact H.sets s q
      · obtain rfl := List.mem_singleton.1 q
        exact ⟨hg 1, by simp, by simp⟩
  · split
    · exact ontoS_cnz h rfl (wLet_len (hg 9))
    · split
      · refine ⟨⟨h.formed.1, fun s hs => ?_⟩, H.ss, by have := h.zs; simpa using this, H.ls, H.sets, fun s hs => ?_, H.links⟩
        · rcases List.mem_append.1 hs with q | q
          · exact h.formed.2 s q
          · obtain rfl := List.mem_singleton.1 q
            simp
        · rcases List.mem_append.1 hs with q | q
          · exact H.zones s q
          · obtain rfl := List.mem_singleton.1 q
            exact ⟨hg 1, by simp, by simp⟩
      · split
        · exact ontoZ_cnz h rfl (hg 4)
        · split
          · refine ⟨h.formed, H.ss, H.zs, by have := h.ls; simpa using this, H.sets, H.zones, fun s hs => ?_⟩
            rcases List.mem_append.1 hs with q | q
            · exact h.links s q
            · obtain rfl := List.mem_singleton.1 q
              exact ⟨hg 1, hg 2⟩
          · exact H
/-- between two rounds: B the first block of the call's own (the answer's box), X the data's box, v the row of the lines. -/
structure FI (B X : Nat) (v : Value) (L : List Bt) (c : Cn) (w A : World) : Prop where
  below : Below B w A
  zero : A.heap[B]? = some (.cells #[.slice none 0 0, .slice none 0 0, .slice none 0 0] 26)
  row : A.ownsRow B 9 1 v L.length (bsStrs L)
  own : DOwn B X c A
  lt : B < X
theorem FI.size {B X : Nat} {v : Value} {L : List Bt} {c : Cn} {w A : World} (h : FI B X v L c w A) : B < A.heap.size := (Array.getElem?_eq_some_iff.1 h.zero).1
theorem FI.next {B X : Nat} {v : Value} {L : List Bt} {c : Cn} {w A A' : World} (h : FI B X v L c w A) (k : Below A.heap.size A A') : FI B X v L c w A' := by
  obtain ⟨vs, vz, vl, ps, pz, hx, hd⟩ := h.own
  exact ⟨h.below.trans (k.mono (Nat.le_of_lt h.size)), keepT_below k _ _ _ h.zero, ow_keepT h.row (keepT_below k), ⟨vs, vz, vl, ps, pz, hx.below k, hd.keep (keepD_below k)⟩, h.lt⟩
theorem FI.turn {B X : Nat} {v : Value} {L : List Bt} {c c' : Cn} {w A A' : World} (h : FI B X v L c w A) (g : LG B X X A A') (hd : DOwn B X c' A') : FI B X v L c' w A' := by
  obtain ⟨vs, vz, vl, ps, pz, hx, _⟩ := h.own
  refine ⟨h.below.trans g.below, g.keep _ _ h.zero (by have := h.lt; omega) (by have := h.lt; omega) (fun T cc fz e => by injection e with _ e; subst e; decide), ow_keepT h.row (fun k cc fz hk => ?_), hd, h.lt⟩
  have hne : k ≠ X := by
    rintro rfl
    unfold XAt at hx
    rw [hk] at hx
    injection hx with hx
    injection hx with _ e
    exact absurd e (by decide)
  exact g.keep _ _ hk hne hne (fun T c2 f2 e => by injection e with _ e; subst e; decide)
/-! what a line brings -/
theorem set_fin {B X : Nat} {vs vz vl v' : Value} {ps pz : List Pc} {c : Cn} {w2 w3 : World} {x : Bt} (h2 : DHold B vs vz vl ps pz c w2) (hx2 : XAt X vs vz vl w2) (hB2 : B ≤ w2.heap.size) (hX : B ≤ X)
    (hown : w3.ownsRow B 48 2 v' (ps.length + 1) (rcs ps ++ [.string (Bs x), .slice none 0 0])) (hg : w2.grownBy w3 vs.ownBlock) :
    DOwn B X { c with ss := c.ss ++ [(x, [])] } (w3.setCell ⟨X, 0, none⟩ v') ∧ LG B X X w2 (w3.setCell ⟨X, 0, none⟩ v') := by
  have h3 := h2.addSet hown hg
  have hx3 : XAt X vs vz vl w3 := hx2.grown h2.sets.row (by decide) hg
  have hx4 : XAt X v' vz vl (w3.setCell ⟨X, 0, none⟩ v') := (set_block (l := [vs, vz, vl]) hx3 v').trans rfl
  exact ⟨⟨_, _, _, _, _, hx4, h3.keep (keepD_x hx3 _ _)⟩, (LG.of_own hB2 h2.sets.row (by decide) hg).set hX _ _⟩
theorem zone_fin {B X : Nat} {vs vz vl v' : Value} {ps pz : List Pc} {c : Cn} {w2 w3 : World} {x : Bt} (h2 : DHold B vs vz vl ps pz c w2) (hx2 : XAt X vs vz vl w2) (hB2 : B ≤ w2.heap.size) (hX : B ≤ X)
    (hown : w3.ownsRow B 57 2 v' (pz.length + 1) (rcs pz ++ [.string (Bs x), .slice none 0 0])) (hg : w2.grownBy w3 vz.ownBlock) :
    DOwn B X { c with zs := c.zs ++ [(x, [])] } (w3.setCell ⟨X, 1, none⟩ v') ∧ LG B X X w2 (w3.setCell ⟨X, 1, none⟩ v') := by
  have h3 := h2.addZone hown hg
  have hx3 : XAt X vs vz vl w3 := hx2.grown h2.zones.row (by decide) hg
  have hx4 : XAt X vs v' vl (w3.setCell ⟨X, 1, none⟩ v') := (set_block (l := [vs, vz, vl]) hx3 v').trans rfl
  exact ⟨⟨_, _, _, _, _, hx4, h3.keep (keepD_x hx3 _ _)⟩, (LG.of_own hB2 h2.zones.row (by decide) hg).set hX _ _⟩
theorem link_fin {B X : Nat} {vs vz vl v' : Value} {ps pz : List Pc} {c : Cn} {w2 w3 : World} {x y : Bt} (h2 : DHold B vs vz vl ps pz c w2) (hx2 : XAt X vs vz vl w2) (hB2 : B ≤ w2.heap.size) (hX : B ≤ X)
    (hown : w3.ownsRow B 61 2 v' (c.ls.length + 1) (lks (c.ls.map lkOf) ++ [.string (Bs x), .string (Bs y)])) (hg : w2.grownBy w3 vl.ownBlock) :
    DOwn B X { c with ls := c.ls ++ [(x, y)] } (w3.setCell ⟨X, 2, none⟩ v') ∧ LG B X X w2 (w3.setCell ⟨X, 2, none⟩ v') := by
  have h3 := h2.addLink hown hg
  have hx3 : XAt X vs vz vl w3 := hx2.grown h2.links (by decide) hg
  have hx4 : XAt X vs vz v' (w3.setCell ⟨X, 2, none⟩ v') := (set_block (l := [vs, vz, vl]) hx3 v').trans rfl
  exact ⟨⟨_, _, _, _, _, hx4, h3.keep (keepD_x hx3 _ _)⟩, (LG.of_own hB2 h2.links (by decide) hg).set hX _ _⟩
theorem rule_fin {B X g cap L N M : Nat} {vz vl pv : Value} {p0 pz : List Pc} {p : Pc} {c : Cn} {S : List (Bt × List (List Int × Bt))} {a : Bt} {rs : List (List Int × Bt)} {r : List Int × Bt} {cs : List Value} {w2 w3 : World}
    (h2 : DHold B (.slice (some ⟨g, 0, none⟩) L cap) vz vl (p0 ++ [p]) pz c w2) (hx2 : XAt X (.slice (some ⟨g, 0, none⟩) L cap) vz vl w2) (hB2 : B ≤ w2.heap.size) (hBg : B ≤ g)
    (hc : c.ss = S ++ [(a, rs)]) (h0 : p0.map pcT = S.map stT) (h1 : pcT p = stT (a, rs)) (hL : L = p0.length + 1) (hN : N = p0.length) (hpv : pv = p.v) (hM : M = p.n) (hcs : rlCells (rlOf r) = cs) {g2 cap2 : Nat}
    (hown : w3.ownsRow B 53 9 (.slice (some ⟨g2, 0, none⟩) (M + 1) cap2) (M + 1) (p.xs ++ cs)) (hg : w2.grownBy w3 pv.ownBlock) (hn : pv.ownBlock = some g2 ∨ g2 = w2.heap.size) :
    DOwn B X { c with ss := ontoLast c.ss r } (w3.setCell ⟨g, N * 2 + 1, none⟩ (.slice (some ⟨g2, 0, none⟩) (M + 1) cap2)) ∧ LG B X X w2 (w3.setCell ⟨g, N * 2 + 1, none⟩ (.slice (some ⟨g2, 0, none⟩) (M + 1) cap2)) := by
  subst hL hN hpv hM hcs
  have hp : (p0 ++ [p])[p0.length]? = some p := by simp
  have he := h2.sets.edge _ _ hp
  have h3 := h2.addRule hc h0 h1 hown hg (near_of hn)
  have hx3 := hx2.grown he (by decide) hg
  have hrow := ow_keepT h2.sets.row (keepT_own he hg (by decide))
  obtain ⟨cc, hgT⟩ := ow_type hrow (g := g) rfl
  have hgX : g ≠ X := by
    rintro rfl
    unfold XAt at hx3
    rw [hgT] at hx3
    injection hx3 with hx3
    injection hx3 with _ e
    exact absurd e (by decide)
  exact ⟨⟨_, _, _, _, _, (Below.heap_setCell w3 ⟨g, _, none⟩ _ X (fun e => hgX e.symm)).trans hx3, h3⟩, (LG.of_own hB2 he (by decide) hg).setRow hgT (by decide) hBg _ _⟩
theorem era_fin {B X g cap L N M : Nat} {vs vl pv : Value} {p0 ps : List Pc} {p : Pc} {c : Cn} {S : List (Bt × List (List Int × Bt × Int))} {a : Bt} {rs : List (List Int × Bt × Int)} {r : List Int × Bt × Int} {cs : List Value} {w2 w3 : World}
    (h2 : DHold B vs (.slice (some ⟨g, 0, none⟩) L cap) vl ps (p0 ++ [p]) c w2) (hx2 : XAt X vs (.slice (some ⟨g, 0, none⟩) L cap) vl w2) (hB2 : B ≤ w2.heap.size) (hBg : B ≤ g)
    (hc : c.zs = S ++ [(a, rs)]) (h0 : p0.map pcT = S.map znT) (h1 : pcT p = znT (a, rs)) (hL : L = p0.length + 1) (hN : N = p0.length) (hpv : pv = p.v) (hM : M = p.n) (hcs : erCells (erOf r) = cs) {g2 cap2 : Nat}
    (hown : w3.ownsRow B 59 5 (.slice (some ⟨g2, 0, none⟩) (M + 1) cap2) (M + 1) (p.xs ++ cs)) (hg : w2.grownBy w3 pv.ownBlock) (hn : pv.ownBlock = some g2 ∨ g2 = w2.heap.size) :
    DOwn B X { c with zs := ontoLast c.zs r } (w3.setCell ⟨g, N * 2 + 1, none⟩ (.slice (some ⟨g2, 0, none⟩) (M + 1) cap2)) ∧ LG B X X w2 (w3.setCell ⟨g, N * 2 + 1, none⟩ (.slice (some ⟨g2, 0, none⟩) (M + 1) cap2)) := by
  subst hL hN hpv hM hcs
  have hp : (p0 ++ [p])[p0.length]? = some p := by simp
  have he := h2.zones.edge _ _ hp
  have h3 := h2.addEra hc h0 h1 hown hg (near_of hn)
  have hx3 := hx2.grown he (by decide) hg
  have hrow := ow_keepT h2.zones.row (keepT_own he hg (by decide))
  obtain ⟨cc, hgT⟩ := ow_type hrow (g := g) rfl
  have hgX : g ≠ X := by
    rintro rfl
    unfold XAt at hx3
    rw [hgT] at hx3
    injection hx3 with hx3
    injection hx3 with _ e
    exact absurd e (by decide)
  exact ⟨⟨_, _, _, _, _, (Below.heap_setCell w3 ⟨g, _, none⟩ _ X (fun e => hgX e.symm)).trans hx3, h3⟩, (LG.of_own hB2 he (by decide) hg).setRow hgT (by decide) hBg _ _⟩
/-- ten words more, all empty: a word that is not there is empty. -/
def tenB : List Value := List.replicate 10 (.string ⟨#[]⟩)
theorem word_cell {w : World} {B g n cap : Nat} {ws : List Bt} (h : w.ownsRow B 9 1 (.slice (some ⟨g, 0, none⟩) n cap) n (bsStrs ws ++ tenB)) (hne : ws ≠ []) {k : Nat} (hk : k < 11) : w.cell? ⟨g, k, none⟩ = some (.string (Bs (ws.getD k []))) := by
  refine ow_cell h ?_
  have h0 : 0 < ws.length := List.length_pos_iff.2 hne
  rw [List.getD_eq_getElem?_getD]
  by_cases hl : k < ws.length
  · rw [List.getElem?_append_left (by simpa [bsStrs, strs] using hl)]
    simp [bsStrs, strs, hl]
  · have hbl : (bsStrs ws).length = ws.length := by simp [bsStrs, strs]
    rw [List.getElem?_append_right (by omega), hbl]
    have hn : ws[k]? = none := List.getElem?_eq_none (by omega)
    rw [hn]
    unfold tenB
    rw [List.getElem?_replicate, if_pos (by omega)]
    rfl
theorem words_form {w : World} {B n : Nat} {v : Value} {ws : List Bt} (h : w.ownsRow B 9 1 v n (bsStrs ws ++ tenB)) : ∃ g cap, v = .slice (some ⟨g, 0, none⟩) n cap ∧ n = ws.length + 10 := by
  have hl : n = ws.length + 10 := by have := h.1; simp [bsStrs, strs, tenB] at this; omega
  obtain ⟨A, cap, rfl, hf⟩ := ow_form h
  obtain ⟨g, rfl, _⟩ := hf (by omega)
  exact ⟨g, cap, rfl, hl⟩
end Gno
namespace Go.Proofs.YthhjgndaiimgjaaGreatDoor
open Go.RowKit Gno
theorem wpList_ten {P : Program} {ops : Array Oper} {rest : List Oper} {o : Oper} {a : Act} {Q : Exit → Act → World → Prop} {w0 wr : World} {B : Nat} (hb : Below B w0 wr) (hB : B ≤ wr.heap.size) (cs : Array Value) (E : TypeId)
    (hgd : o.guard = none) (s x : Operand) (t : TypeId) (ho : o.op = .call { callee := .builtin .append, args := #[s, x], argTypes := #[t, t] }) (ht : P.underlying t = some (.slice E)) (z : Value) (bytes : Nat)
    (hinf : (P.info? E).map (fun i => (i.zero, i.size, i.bytes)) = some (some z, 1, bytes)) (hzs : z.cells.size = 1) (v : Value) (n : Nat) (xs : List Value) (hs : a.eval s = v) (hown : wr.ownsRow B E 1 v n xs)
    (c m : Nat) (hm : 0 < m) (hx : a.eval x = .slice (some ⟨wr.heap.size, 0, none⟩) m c) (hcs : cs.size = m) (h1 : ∀ u ∈ cs.toList, u.oneCell' = true) (h63 : n + m ≤ maxLen) (hbytes : (n + m) * bytes ≤ 140737488355328)
    (h : ∀ v' w1, w1.ownsRow B E 1 v' (n + m) (xs ++ cs.toList) → Below B w0 w1 → wr.heap.size ≤ w1.heap.size → wpList P ops Q rest (a.put o.dst v') w1) : wpList P ops Q (o :: rest) a (wr.alloc (.cells cs E)) := by
  obtain ⟨i0, hi, hz0, hz1, hz2⟩ := info_parts hinf
  refine wpList_append_own (wr.alloc (.cells cs E)) hgd s x t ho B E i0 z 1 bytes ht hi hz0 hz1 hz2 hzs (by decide) v n xs hs (hown.alloc _) ⟨wr.heap.size, 0, none⟩ m c cs.toList hx (by simp [hcs]) ?_ h1 h63 hbytes (by simp; omega) ?_
  · intro j u hj
    have hadd : (⟨wr.heap.size, 0, none⟩ : Addr).add j = ⟨wr.heap.size, j, none⟩ := by unfold Addr.add; split <;> simp_all
    rw [hadd, World.cell?_alloc_at _ _ _ _ rfl]
    simpa using hj
  · intro v' w1 hown1 hgrow1 _
    have h0 : Below B w0 (wr.alloc (.cells cs E)) := hb.alloc hB _
    refine h v' w1 hown1 (h0.grown hgrow1 (by simp; omega) fun k hk => (hown.lt k hk).1) ?_
    have := hgrow1.size
    simp at this
    omega
end Go.Proofs.YthhjgndaiimgjaaGreatDoor
