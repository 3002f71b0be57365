/- An edge inserted where it belongs: slices.Insert at a row of edges of the call's own. -/
import Derived.Test.YtggepbkhhnhnkaaTrK
import Derived.Test.YtggepbkhhnhnkaaApp2
import Derived.Lib.Overlaps
import Derived.Lib.AppendZerosOnto
import Derived.Laws.CopyRow
import Derived.Laws.NewBlocks
import Derived.Deep.RegionLaw
set_option linter.unusedVariables false
set_option linter.unusedSimpArgs false
namespace Gno
open Go Go.RowKit
def edCells (x : Eg) : List Value := [.int .u8 x.c, .int .i64 x.to]
def eds (l : List Eg) : List Value := l.flatMap edCells
theorem eds_app (l m : List Eg) : eds (l ++ m) = eds l ++ eds m := by unfold eds; simp
theorem eds_cons (x : Eg) (l : List Eg) : eds (x :: l) = edCells x ++ eds l := by unfold eds; simp
theorem eds_len (l : List Eg) : (eds l).length = l.length * 2 := by
  induction l with
  | nil => rfl
  | cons a t ih => rw [eds_cons, List.length_append, ih, List.length_cons]; simp [edCells]; omega
theorem eds_one {l : List Eg} : ∀ u ∈ eds l, u.oneCell' = true := by
  intro u hu
  unfold eds at hu
  obtain ⟨x, _, hx⟩ := List.mem_flatMap.1 hu
  simp [edCells] at hx
  rcases hx with rfl | rfl <;> rfl
theorem eds_take (l : List Eg) (i : Nat) : (eds l).take (i * 2) = eds (l.take i) := by
  conv => lhs; rw [← List.take_append_drop i l, eds_app]
  by_cases h : i ≤ l.length
  · rw [List.take_append_of_le_length (by rw [eds_len, List.length_take]; omega), List.take_of_length_le (by rw [eds_len, List.length_take]; omega)]
  · rw [List.drop_eq_nil_of_le (by omega), List.take_of_length_le (l := l) (by omega)]
    rw [List.take_of_length_le (by rw [List.length_append, eds_len]; simp [eds]; omega)]
    simp [eds]
theorem eds_drop (l : List Eg) (i : Nat) : (eds l).drop (i * 2) = eds (l.drop i) := by
  have h1 := List.take_append_drop (i * 2) (eds l)
  have h2 : eds l = eds (l.take i) ++ eds (l.drop i) := by rw [← eds_app, List.take_append_drop]
  rw [eds_take] at h1
  conv at h1 => rhs; rw [h2]
  exact List.append_cancel_left h1
end Gno
namespace Go.Proofs.Ytggepbkhhnhnkaa
open Go.RowKit Gno
section
variable {P : Program}
/-- 'copy' into a block that is known whole, at elements of k cells. -/
theorem run_copy_rowk (w : World) (dT sT ty elem : TypeId) (k : Nat) (g o dLen dCap : Nat) (a : Addr) (sLen sCap : Nat) (cur : Array Value) (t : TypeId) (cs : List Value)
    (hu : P.underlying dT = some (.slice elem)) (hs : (P.info? elem).map (·.size) = some k)
    (hg : w.heap[g]? = some (.cells cur t (0, 0))) (hn : cs.length = Nat.min sLen dLen * k)
    (hsrc : ∀ j v, cs[j]? = some v → w.cell? (a.add j) = some v) (hfit : o + cs.length ≤ cur.size) (h1 : ∀ v ∈ cs, v.oneCell' = true) :
    (Builtin.copy_ #[dT, sT] ty #[.slice (some ⟨g, o, none⟩) dLen dCap, .slice (some a) sLen sCap]).run P w =
      .ok (goInt (Nat.min sLen dLen)) (w.setRow g (cur.toList.take o ++ cs ++ cur.toList.drop (o + cs.length)).toArray) := by
  have hl := run_loadCells_list (P := P) w a cs hsrc
  have hst := run_storeCells_at P g o t cs 0 cur w hg (by simpa using hfit) h1
  cases hq : P.info? elem with
  | none => simp [hq] at hs
  | some i =>
    have hi : i.size = k := by simpa [hq] using hs
    simp [Builtin.copy_, run_underlying hu, Builtin.lenOf, Builtin.firstCells, sizeOf, typeInfo, hq, hi, ← hn, hl, hst]
theorem wp_copy_runE (w : World) {o : Oper} {a : Act} {K : Act → World → Prop} {Q : Exit → Act → World → Prop} (d s : Operand) (t t' : TypeId)
    (ho : o.op = .call { callee := .builtin .copy, args := #[d, s], argTypes := #[t, t'] }) (v u : Value) (hd : a.eval d = v) (hs : a.eval s = u) {v' : Value} {w' : World}
    (hr : (Builtin.copy_ #[t, t'] o.type #[v, u]).run P w = .ok v' w') (h : K (a.put o.dst v') w') : o.wp P a w K Q := by
  unfold Oper.wp execOp
  simp only [ho, resolve, invoke, builtin, Sem.run_bind, Sem.run_pure, Result.andThen_ok, List.map_toArray, List.map_cons, List.map_nil, hd, hs, hr]
  exact h
theorem wpList_copy_runE (w : World) {ops : Array Oper} {rest : List Oper} {o : Oper} {a : Act} {Q : Exit → Act → World → Prop} (hgd : o.guard = none) (d s : Operand) (t t' : TypeId)
    (ho : o.op = .call { callee := .builtin .copy, args := #[d, s], argTypes := #[t, t'] }) (v u : Value) (hd : a.eval d = v) (hs : a.eval s = u) {v' : Value} {w' : World}
    (hr : (Builtin.copy_ #[t, t'] o.type #[v, u]).run P w = .ok v' w') (h : wpList P ops Q rest (a.put o.dst v') w') : wpList P ops Q (o :: rest) a w :=
  wpList_plain hgd fun _ hK => wp_copy_runE w d s t t' ho v u hd hs hr (hK _ _ h)
theorem step_copy_runE {ops : Array Oper} {o : Oper} {a : Act} {w : World} {K : Act → World → Prop} {Q : Exit → Act → World → Prop} {E : Prop}
    (hg : o.guard = none) (d x : Operand) (dT sT : TypeId) (hop : o.op = Op.call { callee := Callee.builtin Builtin.copy, args := #[d, x], argTypes := #[dT, sT] })
    (v u : Value) (hd : a.eval d = v) (hx : a.eval x = u) {v' : Value} {w' : World} (hr : (Builtin.copy_ #[dT, sT] o.type #[v, u]).run P w = .ok v' w') (hK : K (a.put o.dst v') w') :
    if Region.wanted o (yielded ops a.tmps) = true then Oper.wp P o a w K Q else E := by
  have hw : Region.wanted o (yielded ops a.tmps) = true := by simp [Region.wanted, hg]
  rw [if_pos hw]
  exact wp_copy_runE w d x dT sT hop v u hd hx hr hK
theorem wpList_append_runE (w : World) {ops : Array Oper} {rest : List Oper} {o : Oper} {a : Act} {Q : Exit → Act → World → Prop} (hgd : o.guard = none) (d s : Operand) (t t' : TypeId)
    (ho : o.op = .call { callee := .builtin .append, args := #[d, s], argTypes := #[t, t'] }) (v u : Value) (hd : a.eval d = v) (hs : a.eval s = u) {v' : Value} {w' : World}
    (hr : (Builtin.append_ #[t, t'] o.type #[v, u]).run P w = .ok v' w') (h : wpList P ops Q rest (a.put o.dst v') w') : wpList P ops Q (o :: rest) a w :=
  wpList_plain hgd fun _ hK => by
    unfold Oper.wp execOp
    simp only [ho, resolve, invoke, builtin, Sem.run_bind, Sem.run_pure, Result.andThen_ok, List.map_toArray, List.map_cons, List.map_nil, hd, hs, hr]
    exact hK _ _ h
end
theorem infoEdge : (Try.prog.info? 54).map (fun i => (i.zero, i.size, i.bytes)) = some (some (.agg #[.int .u8 0, .int .i64 0]), 2, 16) := by kernel_rfl
theorem sizeEdge : (Try.prog.info? 54).map (·.size) = some 2 := by kernel_rfl
/-- what Insert does to a row of its caller's. -/
def InsR (B : Nat) (v : Value) (n : Nat) (ys : List Eg) (w : World) (e : Ending) (w' : World) : Prop :=
  ∃ v', e = .returned v' ∧ w'.ownsRow B 54 2 v' (n + 1) (eds ys) ∧ w.grownBy w' v.ownBlock ∧ NearOr w v v'
theorem addLit (g o j : Nat) : (⟨g, o, none⟩ : Addr).add j = ⟨g, o + j, none⟩ := by unfold Addr.add; split <;> simp_all
set_option maxHeartbeats 4000000 in
/-- at the end. -/
theorem ins_end (B : Nat) (v : Value) (n : Nat) (l : List Eg) (x : Eg) (xb : Nat) (w : World) (hown : w.ownsRow B 54 2 v n (eds l)) (hB : B ≤ w.heap.size) (hn : n ≤ 1000) (hx : w.heap[xb]? = some (.cells #[.int .u8 x.c, .int .i64 x.to] 54 (0, 0))) :
    Calls Try.prog 23 #[v, .int .i64 n, .slice (some ⟨xb, 0, none⟩) 1 1] w (InsR B v n (l ++ [x]) w) := by
  have hnews : ∀ j u, (edCells x)[j]? = some u → w.cell? ((⟨xb, 0, none⟩ : Addr).add j) = some u := fun j u hj => by
    rw [addLit, Nat.zero_add]
    simp [World.cell?, hx]
    match j, hj with
    | 0, hj => simpa [edCells] using hj
    | 1, hj => simpa [edCells] using hj
  obtain ⟨v', w', hr, h2, h3, h4⟩ := run_append_at (P := Try.prog) w B 47 47 54 _ _ 2 16 Try.underlying47 (info_parts infoEdge).choose_spec.1 (info_parts infoEdge).choose_spec.2.1 (info_parts infoEdge).choose_spec.2.2.1 (info_parts infoEdge).choose_spec.2.2.2 rfl (by decide) v n (eds l) hown ⟨xb, 0, none⟩ 1 1 (edCells x) rfl hnews (fun u hu => eds_one (l := [x]) u (by simpa [eds] using hu)) (by unfold maxLen; omega) (by omega) hB
  have HR : Hid (InsR B v n (l ++ [x]) w (.returned v') w') := Lib.hid ⟨v', rfl, by rw [eds_app]; simpa [eds] using h2, h3, h4⟩
  rcases hown.2 with ⟨rfl, rfl⟩ | ⟨g, cap, cur, rfl, hbg, hg, hnc, hcm, hcs, htk⟩
  · clear hown hx hnews h2 h3 h4
    go_enter Try.func23, Try.ntmps23
    go_wp2_with (at_builtin; refine wpList_append_runE _ rfl _ _ _ _ rfl _ _ rfl rfl hr ?_)
    go_ret
    exact HR.out
  · unfold maxLen at hcm
    have hcn : (n : Int) ≤ (cap : Int) := by omega
    clear hown hx hnews h2 h3 h4 hg hcs htk
    by_cases hce : cap = n
    · subst hce
      go_enter Try.func23, Try.ntmps23
      go_wp2_with (at_builtin; refine wpList_append_runE _ rfl _ _ _ _ rfl _ _ rfl rfl hr ?_)
      go_ret
      exact HR.out
    · go_enter Try.func23, Try.ntmps23
      go_wp2_with (at_builtin; refine wpList_append_runE _ rfl _ _ _ _ rfl _ _ rfl rfl hr ?_)
      go_ret
      exact HR.out
end Go.Proofs.Ytggepbkhhnhnkaa
