/- Parts of a proof, laid together. -/
import Derived.Deep.DeepMust
import Derived.Maps.AppendAt
import Derived.Test.YthhjgndaiimgjaaGreatDoorMUSrcB4
set_option linter.unusedSimpArgs false
set_option linter.unusedVariables false
/-! One element appended to a slice of the call's own: the law in one piece; texts that the call has laid. -/
section
set_option linter.unusedVariables false
set_option linter.unusedSimpArgs false
namespace Go.Proofs.YthhjgndaiimgjaaGreatDoor
open Go.RowKit Gno
theorem wpList_app {P : Program} {ops : Array Oper} {rest : List Oper} {o : Oper} {a : Act} {Q : Exit → Act → World → Prop} {w0 wr : World} {B : Nat} (hb : Below B w0 wr) (hB : B ≤ wr.heap.size) (cs : Array Value) (E : TypeId)
    (hgd : o.guard = none) (s x : Operand) (t : TypeId) (ho : o.op = .call { callee := .builtin .append, args := #[s, x], argTypes := #[t, t] }) (ht : P.underlying t = some (.slice E)) (z : Value) (sz bytes : Nat)
    (hinf : (P.info? E).map (fun i => (i.zero, i.size, i.bytes)) = some (some z, sz, bytes)) (hzs : z.cells.size = sz) (hsz : 0 < sz) (v : Value) (n : Nat) (xs : List Value) (hs : a.eval s = v) (hown : wr.ownsRow B E sz v n xs)
    (c : Nat) (hx : a.eval x = .slice (some ⟨wr.heap.size, 0, none⟩) 1 c) (hcs : cs.size = sz) (h1 : ∀ u ∈ cs.toList, u.oneCell' = true) (h63 : n + 1 ≤ maxLen) (hbytes : (n + 1) * bytes ≤ 140737488355328)
    (h : ∀ v' w1, w1.ownsRow B E sz v' (n + 1) (xs ++ cs.toList) → Below B w0 w1 → wr.heap.size ≤ w1.heap.size → wpList P ops Q rest (a.put o.dst v') w1) : wpList P ops Q (o :: rest) a (wr.alloc (.cells cs E)) := by
  obtain ⟨i0, hi, hz0, hz1, hz2⟩ := info_parts hinf
  refine wpList_append_own (wr.alloc (.cells cs E)) hgd s x t ho B E i0 z sz bytes ht hi hz0 hz1 hz2 hzs hsz v n xs hs (hown.alloc _) ⟨wr.heap.size, 0, none⟩ 1 c cs.toList hx (by simp [hcs]) ?_ h1 h63 hbytes (by simp; omega) ?_
  · intro j u hj
    have hadd : (⟨wr.heap.size, 0, none⟩ : Addr).add j = ⟨wr.heap.size, j, none⟩ := by unfold Addr.add; split <;> simp_all
    rw [hadd, World.cell?_alloc_at _ _ _ _ rfl]
    simpa using hj
  · intro v' w1 hown1 hgrow1 _
    have h0 : Below B w0 (wr.alloc (.cells cs E)) := hb.alloc hB _
    refine h v' w1 hown1 (h0.grown hgrow1 (by simp; omega) fun k hk => (hown.lt k hk).1) ?_
    have := hgrow1.size
    simp at this
    omega
/-- texts that the call has laid. -/
def strs (l : List ByteArray) : List Value := l.map Value.string
theorem infoStr : (Tryz.prog.info? 9).map (fun i => (i.zero, i.size, i.bytes)) = some (some (.string ⟨#[]⟩), 1, 16) := by kernel_rfl
theorem ownsRow_strs {w : World} {B : Nat} {e : TypeId} {v : Value} {n : Nat} {l : List ByteArray} (h : w.ownsRow B e 1 v n (strs l)) (hn : n ≤ maxLen) :
    ∃ A cap, v = .slice A n cap ∧ StrsAt w w.heap.size A n l := by
  have hl : l.length = n := by have := h.1; simpa [strs] using this
  rcases h.2 with ⟨rfl, rfl⟩ | ⟨g, cap, cur, rfl, hb, hg, hrest⟩
  · exact ⟨none, 0, rfl, hl, hn, fun h0 => by omega⟩
  · refine ⟨_, cap, rfl, hl, hn, fun _ => ⟨g, 0, rfl, (Array.getElem?_eq_some_iff.1 hg).1, fun i s hi => ?_⟩⟩
    have := h.cells (g := g) rfl i (.string s) (by simp [strs, hi])
    have hadd : (⟨g, 0, none⟩ : Addr).add i = ⟨g, i, none⟩ := by unfold Addr.add; split <;> simp_all
    rw [hadd] at this
    rw [Nat.zero_add]; exact this
end Go.Proofs.YthhjgndaiimgjaaGreatDoor
end
/-! An append to an own slice beside another own slice: where the new one lies. -/
section
set_option linter.unusedVariables false
set_option linter.unusedSimpArgs false
namespace Go.Proofs.YthhjgndaiimgjaaGreatDoor
open Go.RowKit Gno
def Apart (v v2 : Value) : Prop := ∀ k, v.ownBlock = some k → v2.ownBlock ≠ some k
theorem Apart.symm {v v2 : Value} (h : Apart v v2) : Apart v2 v := fun k h1 h2 => h k h2 h1
theorem Apart.nil (v : Value) : Apart (.slice none 0 0) v := fun k h => by simp [Value.ownBlock] at h
/-- it lies where it lay, or anew. -/
def NearOr (w : World) (v v' : Value) : Prop := v'.ownBlock = v.ownBlock ∨ ∀ k, v'.ownBlock = some k → w.heap.size ≤ k
theorem own_apart {w w1 : World} {B2 : Nat} {e : TypeId} {sz : Nat} {v v' v2 : Value} {n2 : Nat} {xs2 : List Value} (h2 : w.ownsRow B2 e sz v2 n2 xs2) (hg : w.grownBy w1 v.ownBlock) (ha : Apart v v2) (hb : NearOr w v v') :
    w1.ownsRow B2 e sz v2 n2 xs2 ∧ Apart v' v2 := by
  refine ⟨h2.kept hg ?_, fun k hk hk2 => ?_⟩
  · cases hv : v2.ownBlock with
    | none => exact .inl rfl
    | some k => exact .inr (fun h => ha k h.symm hv)
  · rcases hb with h | h
    · exact ha k (h ▸ hk) hk2
    · have := h k hk
      have := (h2.lt k hk2).2
      omega
section
variable {P : Program} (w : World)
theorem run_append_at (base : Nat) (t ty e : TypeId) (i : TypeInfo) (z : Value) (size bytes : Nat) (ht : P.underlying t = some (.slice e)) (hi : P.info? e = some i) (hz : i.zero = some z)
    (hsize : i.size = size) (hby : i.bytes = bytes) (hzs : z.cells.size = size) (hsz : 0 < size)
    (v : Value) (n : Nat) (xs : List Value) (hown : w.ownsRow base e size v n xs)
    (a : Addr) (m c : Nat) (news : List Value) (hl : news.length = m * size) (hnews : ∀ j u, news[j]? = some u → w.cell? (a.add j) = some u) (h1 : ∀ u ∈ news, u.oneCell' = true)
    (h63 : n + m ≤ maxLen) (hbytes : (n + m) * bytes ≤ 140737488355328) (hbase : base ≤ w.heap.size) :
    ∃ v' w', (Builtin.append_ #[t, t] ty #[v, .slice (some a) m c]).run P w = .ok v' w' ∧ w'.ownsRow base e size v' (n + m) (xs ++ news) ∧ w.grownBy w' v.ownBlock ∧ NearOr w v v' := by
  obtain ⟨v', w', hr, h2, h3, _⟩ := run_append_own (P := P) w base t ty e i z size bytes ht hi hz hsize hby hzs hsz v n xs hown a m c news hl hnews h1 h63 hbytes hbase
  refine ⟨v', w', hr, h2, h3, ?_⟩
  have hsmall : n + m ≤ 9223372036854775807 := by simp only [maxLen] at h63; omega
  rcases hown.2 with ⟨rfl, rfl⟩ | ⟨g, cap, cur, rfl, hbg, hg, hnc, hcm, hcs, htake⟩
  · have hx : xs = [] := List.eq_nil_of_length_eq_zero (by simpa using hown.1)
    subst hx
    obtain ⟨v2, w2, hr2, h22, _, _⟩ := run_append_own (P := P) w w.heap.size t ty e i z size bytes ht hi hz hsize hby hzs hsz _ 0 [] (World.ownsRow_nil w w.heap.size e size) a m c news hl hnews h1 h63 hbytes (Nat.le_refl _)
    rw [hr] at hr2
    injection hr2 with e1 e2
    subst e1
    exact .inr fun k hk => (h22.lt k hk).1
  · subst hsize
    by_cases hroom : n + m ≤ cap
    · have hfit : n * i.size + news.length ≤ cur.size := by rw [hl, hcs, ← Nat.add_mul]; exact Nat.mul_le_mul_right _ hroom
      have hr2 := run_append_room (P := P) w t ty e i ht hi g n cap cur hg a m c news hl hnews h1 hroom hfit
      rw [hr] at hr2
      injection hr2 with e1 e2
      subst e1
      exact .inl rfl
    · have holds : ∀ j u, xs[j]? = some u → w.cell? ((⟨g, 0, none⟩ : Addr).add j) = some u := hown.cells (g := g) rfl
      subst hby
      have hr2 := run_append_grow (P := P) w t ty e i z ht hi hz ⟨g, 0, none⟩ n cap xs hown.1 holds a m c news hl hnews (by omega) (by omega) (growslice_fits (by omega) hbytes)
      rw [hr] at hr2
      injection hr2 with e1 e2
      subst e1
      refine .inr fun k hk => ?_
      simp [Value.ownBlock] at hk
      omega
end
theorem wpList_app2 {P : Program} {ops : Array Oper} {rest : List Oper} {o : Oper} {a : Act} {Q : Exit → Act → World → Prop} {w : World} (hgd : o.guard = none) (s x : Operand) (t : TypeId)
    (ho : o.op = .call { callee := .builtin .append, args := #[s, x], argTypes := #[t, t] })
    (base : Nat) (e : TypeId) (z : Value) (size bytes : Nat) (ht : P.underlying t = some (.slice e)) (hinf : (P.info? e).map (fun i => (i.zero, i.size, i.bytes)) = some (some z, size, bytes))
    (hzs : z.cells.size = size) (hsz : 0 < size)
    (v : Value) (n : Nat) (xs : List Value) (hs : a.eval s = v) (hown : w.ownsRow base e size v n xs)
    (ad : Addr) (m c : Nat) (news : List Value) (hx : a.eval x = .slice (some ad) m c) (hl : news.length = m * size) (hnews : ∀ j u, news[j]? = some u → w.cell? (ad.add j) = some u) (h1 : ∀ u ∈ news, u.oneCell' = true)
    (h63 : n + m ≤ maxLen) (hbytes : (n + m) * bytes ≤ 140737488355328) (hbase : base ≤ w.heap.size)
    (h : ∀ v' w', w'.ownsRow base e size v' (n + m) (xs ++ news) → w.grownBy w' v.ownBlock → NearOr w v v' → wpList P ops Q rest (a.put o.dst v') w') : wpList P ops Q (o :: rest) a w := by
  obtain ⟨i, hi, hz, hsize, hby⟩ := info_parts hinf
  refine wpList_plain hgd fun K hK => ?_
  obtain ⟨v', w', hr, h2, h3, h4⟩ := run_append_at (P := P) w base t o.type e i z size bytes ht hi hz hsize hby hzs hsz v n xs hown ad m c news hl hnews h1 h63 hbytes hbase
  unfold Oper.wp execOp
  simp only [ho, resolve, invoke, builtin, Sem.run_bind, Sem.run_pure, Result.andThen_ok, List.map_toArray, List.map_cons, List.map_nil, hs, hx, hr]
  exact hK _ _ (h v' w' h2 h3 h4)
/-- a text, or two, laid a moment ago. -/
theorem laid_at {w : World} {cs : Array Value} {E : TypeId} : ∀ j u, cs.toList[j]? = some u → (w.alloc (.cells cs E)).cell? ((⟨w.heap.size, 0, none⟩ : Addr).add j) = some u := by
  intro j u hj
  have hadd : (⟨w.heap.size, 0, none⟩ : Addr).add j = ⟨w.heap.size, j, none⟩ := by unfold Addr.add; split <;> simp_all
  rw [hadd, World.cell?_alloc_at _ _ _ _ rfl]
  simpa using hj
end Go.Proofs.YthhjgndaiimgjaaGreatDoor
end
