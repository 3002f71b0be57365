/- One element appended to a slice of the call's own: the law in one piece; texts that the call has laid. -/
import Derived.Test.YtlmphmfadikdpaaSeen
import Derived.Deep.DeepMust
import Derived.Maps.AppendAt
set_option linter.unusedVariables false
namespace Go.Proofs.Ytlmphmfadikdpaa
open Go.RowKit Gno
theorem wpList_app {P : Program} {ops : Array Oper} {rest : List Oper} {o : Oper} {a : Act} {Q : Exit → Act → World → Prop} {w0 wr : World} {B : Nat} (hb : Below B w0 wr) (hB : B ≤ wr.heap.size) (cs : Array Value) (E : TypeId)
    (hgd : o.guard = none) (s x : Operand) (t : TypeId) (ho : o.op = .call { callee := .builtin .append, args := #[s, x], argTypes := #[t, t] }) (ht : P.underlying t = some (.slice E)) (z : Value) (sz bytes : Nat)
    (hinf : (P.info? E).map (fun i => (i.zero, i.size, i.bytes)) = some (some z, sz, bytes)) (hzs : z.cells.size = sz) (hsz : 0 < sz) (v : Value) (n : Nat) (xs : List Value) (hs : a.eval s = v) (hown : wr.ownsRow B E sz v n xs)
    (c : Nat) (hx : a.eval x = .slice (some ⟨wr.heap.size, 0, none⟩) 1 c) (hcs : cs.size = sz) (h1 : ∀ u ∈ cs.toList, u.oneCell' = true) (h63 : n + 1 ≤ maxLen) (hbytes : (n + 1) * bytes ≤ 140737488355328)
    (h : ∀ v' w1, w1.ownsRow B E sz v' (n + 1) (xs ++ cs.toList) → Below B w0 w1 → wr.heap.size ≤ w1.heap.size → wpList P ops Q rest (a.put o.dst v') w1) : wpList P ops Q (o :: rest) a (wr.alloc (.cells cs E)) := by
  obtain ⟨i0, hi, hz0, hz1, hz2⟩ := info_parts hinf
  refine wpList_append_own (wr.alloc (.cells cs E)) hgd s x t ho B E i0 z sz bytes ht hi hz0 hz1 hz2 hzs hsz v n xs hs (hown.alloc _) ⟨wr.heap.size, 0, none⟩ 1 c cs.toList hx (by simp [hcs]) ?_ h1 h63 hbytes (by simp; omega) ?_
  · intro j u hj
    have hadd : (⟨wr.heap.size, 0, none⟩ : Addr).add j = ⟨wr.heap.size, j, none⟩ := by unfold Addr.add; split <;> simp_all
    rw [hadd, World.cell?_alloc_at _ _ _ _ rfl]
    simpa using hj
  · intro v' w1 hown1 hgrow1 _
    have h0 : Below B w0 (wr.alloc (.cells cs E)) := hb.alloc hB _
    refine h v' w1 hown1 (h0.grown hgrow1 (by simp; omega) fun k hk => (hown.lt k hk).1) ?_
    have := hgrow1.size
    simp at this
    omega
/-- texts that the call has laid. -/
def strs (l : List ByteArray) : List Value := l.map Value.string
theorem infoStr : (Try.prog.info? 9).map (fun i => (i.zero, i.size, i.bytes)) = some (some (.string ⟨#[]⟩), 1, 16) := by kernel_rfl
theorem ownsRow_strs {w : World} {B : Nat} {e : TypeId} {v : Value} {n : Nat} {l : List ByteArray} (h : w.ownsRow B e 1 v n (strs l)) (hn : n ≤ maxLen) :
    ∃ A cap, v = .slice A n cap ∧ StrsAt w w.heap.size A n l := by
  have hl : l.length = n := by have := h.1; simpa [strs] using this
  rcases h.2 with ⟨rfl, rfl⟩ | ⟨g, cap, cur, rfl, hb, hg, hrest⟩
  · exact ⟨none, 0, rfl, hl, hn, fun h0 => by omega⟩
  · refine ⟨_, cap, rfl, hl, hn, fun _ => ⟨g, 0, rfl, (Array.getElem?_eq_some_iff.1 hg).1, fun i s hi => ?_⟩⟩
    have := h.cells (g := g) rfl i (.string s) (by simp [strs, hi])
    have hadd : (⟨g, 0, none⟩ : Addr).add i = ⟨g, i, none⟩ := by unfold Addr.add; split <;> simp_all
    rw [hadd] at this
    rw [Nat.zero_add]; exact this
theorem StrsAt.below {B B' : Nat} {w w' : World} {A : Option Addr} {n : Nat} {l : List ByteArray} (h : StrsAt w B A n l) (hb : Below B' w w') (hB : B ≤ B') : StrsAt w' B A n l :=
  ⟨h.1, h.2.1, fun hn => by
    obtain ⟨b, o, e, hbB, hc⟩ := h.2.2 hn
    have hl : b < B' := by omega
    exact ⟨b, o, e, hbB, fun i p hi => (hb.cell hl).trans (hc i p hi)⟩⟩
theorem StrsAt.more {B B' : Nat} {w : World} {A : Option Addr} {n : Nat} {l : List ByteArray} (h : StrsAt w B A n l) (hB : B ≤ B') : StrsAt w B' A n l :=
  ⟨h.1, h.2.1, fun hn => by
    obtain ⟨b, o, e, hbB, hc⟩ := h.2.2 hn
    exact ⟨b, o, e, by omega, hc⟩⟩
theorem take_snoc' {α : Type} {l : List α} {i : Nat} {x : α} (h : l[i]? = some x) : l.take (i + 1) = l.take i ++ [x] := by
  have hi : i < l.length := (List.getElem?_eq_some_iff.1 h).1
  rw [List.take_succ_eq_append_getElem hi, (List.getElem?_eq_some_iff.1 h).2]
theorem PairsAt.get {w : World} {B : Nat} {A : Option Addr} {n : Nat} {ps : List Pr} (h : PairsAt w B A n ps) {i : Nat} (hi : i < n) :
    ∃ b o q, A = some ⟨b, o, none⟩ ∧ b < B ∧ ps[i]? = some q ∧ q.key.size ≤ maxLen ∧ q.text.size ≤ maxLen ∧ ∀ W, Below B w W → PairAt W b (o + i * 2) q := by
  obtain ⟨b, o, hA, hbB, hc⟩ := h.2.2 (by omega)
  have hl : i < ps.length := by rw [h.1]; exact hi
  have h1 := hc i _ (List.getElem?_eq_getElem hl)
  exact ⟨b, o, ps[i], hA, hbB, List.getElem?_eq_getElem hl, h1.2.1, h1.2.2, fun W hW => ⟨(hW.cell hbB).trans h1.1.1, (hW.cell hbB).trans h1.1.2⟩⟩
theorem BooksAt.get {w : World} {B : Nat} {A : Option Addr} {n : Nat} {bs : List Bk} (h : BooksAt w B A n bs) {i : Nat} (hi : i < n) :
    ∃ b o q, A = some ⟨b, o, none⟩ ∧ b < B ∧ bs[i]? = some q ∧ q.loc.size ≤ maxLen ∧ ∀ W, Below B w W → BookAt W b (o + i * 3) q ∧ PairsAt W B q.A q.n q.ps := by
  obtain ⟨b, o, hA, hbB, hc⟩ := h.2.2 (by omega)
  have hl : i < bs.length := by rw [h.1]; exact hi
  have h1 := hc i _ (List.getElem?_eq_getElem hl)
  exact ⟨b, o, bs[i], hA, hbB, List.getElem?_eq_getElem hl, h1.2.1, fun W hW => ⟨⟨(hW.cell hbB).trans h1.1.1, (hW.cell hbB).trans h1.1.2.1, (hW.cell hbB).trans h1.1.2.2⟩, h1.2.2.below hW (Nat.le_refl _)⟩⟩
theorem locs_snoc {bs : List Bk} {i : Nat} {q : Bk} (h : bs[i]? = some q) : strs (locs (bs.take (i + 1))) = strs (locs (bs.take i)) ++ [.string q.loc] := by
  rw [take_snoc' h]; simp [strs, locs]
theorem hasP_yes {α : Type} {p : α → Bool} {ps : List α} {i : Nat} {x : α} (h : ps[i]? = some x) (hp : p x = true) : hasP p ps = true := by
  rw [hasP_any, List.any_eq_true]; exact ⟨x, List.mem_of_getElem? h, hp⟩
theorem hasP_no {α : Type} {p : α → Bool} {ps : List α} {i : Nat} (h : ¬ i < ps.length) (hi : i ≤ ps.length) (h0 : anyTo (atI (fun _ => p) ps) i = false) : hasP p ps = false := by
  rw [hasP_any, ← anyI_any]; exact anyI_end h hi h0
end Go.Proofs.Ytlmphmfadikdpaa
