/- One element appended to a slice of the call's own: the law in one piece; texts that the call has laid. -/
import Derived.Test.YtggepbkhhnhnkaaTwice
import Derived.Deep.DeepMust
import Derived.Maps.AppendAt
set_option linter.unusedVariables false
set_option linter.unusedSimpArgs false
namespace Go.Proofs.Ytggepbkhhnhnkaa
open Go.RowKit Gno
theorem wpList_app {P : Program} {ops : Array Oper} {rest : List Oper} {o : Oper} {a : Act} {Q : Exit → Act → World → Prop} {w0 wr : World} {B : Nat} (hb : Below B w0 wr) (hB : B ≤ wr.heap.size) (cs : Array Value) (E : TypeId)
    (hgd : o.guard = none) (s x : Operand) (t : TypeId) (ho : o.op = .call { callee := .builtin .append, args := #[s, x], argTypes := #[t, t] }) (ht : P.underlying t = some (.slice E)) (z : Value) (sz bytes : Nat)
    (hinf : (P.info? E).map (fun i => (i.zero, i.size, i.bytes)) = some (some z, sz, bytes)) (hzs : z.cells.size = sz) (hsz : 0 < sz) (v : Value) (n : Nat) (xs : List Value) (hs : a.eval s = v) (hown : wr.ownsRow B E sz v n xs)
    (c : Nat) (hx : a.eval x = .slice (some ⟨wr.heap.size, 0, none⟩) 1 c) (hcs : cs.size = sz) (h1 : ∀ u ∈ cs.toList, u.oneCell' = true) (h63 : n + 1 ≤ maxLen) (hbytes : (n + 1) * bytes ≤ 140737488355328)
    (h : ∀ v' w1, w1.ownsRow B E sz v' (n + 1) (xs ++ cs.toList) → Below B w0 w1 → wr.heap.size ≤ w1.heap.size → wpList P ops Q rest (a.put o.dst v') w1) : wpList P ops Q (o :: rest) a (wr.alloc (.cells cs E)) := by
  obtain ⟨i0, hi, hz0, hz1, hz2⟩ := info_parts hinf
  refine wpList_append_own (wr.alloc (.cells cs E)) hgd s x t ho B E i0 z sz bytes ht hi hz0 hz1 hz2 hzs hsz v n xs hs (hown.alloc _) ⟨wr.heap.size, 0, none⟩ 1 c cs.toList hx (by simp [hcs]) ?_ h1 h63 hbytes (by simp; omega) ?_
  · intro j u hj
    have hadd : (⟨wr.heap.size, 0, none⟩ : Addr).add j = ⟨wr.heap.size, j, none⟩ := by unfold Addr.add; split <;> simp_all
    rw [hadd, World.cell?_alloc_at _ _ _ _ rfl]
    simpa using hj
  · intro v' w1 hown1 hgrow1 _
    have h0 : Below B w0 (wr.alloc (.cells cs E)) := hb.alloc hB _
    refine h v' w1 hown1 (h0.grown hgrow1 (by simp; omega) fun k hk => (hown.lt k hk).1) ?_
    have := hgrow1.size
    simp at this
    omega
/-- texts that the call has laid. -/
def strs (l : List ByteArray) : List Value := l.map Value.string
theorem infoStr : (Try.prog.info? 9).map (fun i => (i.zero, i.size, i.bytes)) = some (some (.string ⟨#[]⟩), 1, 16) := by kernel_rfl
theorem ownsRow_strs {w : World} {B : Nat} {e : TypeId} {v : Value} {n : Nat} {l : List ByteArray} (h : w.ownsRow B e 1 v n (strs l)) (hn : n ≤ maxLen) :
    ∃ A cap, v = .slice A n cap ∧ StrsAt w w.heap.size A n l := by
  have hl : l.length = n := by have := h.1; simpa [strs] using this
  rcases h.2 with ⟨rfl, rfl⟩ | ⟨g, cap, cur, rfl, hb, hg, hrest⟩
  · exact ⟨none, 0, rfl, hl, hn, fun h0 => by omega⟩
  · refine ⟨_, cap, rfl, hl, hn, fun _ => ⟨g, 0, rfl, (Array.getElem?_eq_some_iff.1 hg).1, fun i s hi => ?_⟩⟩
    have := h.cells (g := g) rfl i (.string s) (by simp [strs, hi])
    have hadd : (⟨g, 0, none⟩ : Addr).add i = ⟨g, i, none⟩ := by unfold Addr.add; split <;> simp_all
    rw [hadd] at this
    rw [Nat.zero_add]; exact this
end Go.Proofs.Ytggepbkhhnhnkaa
