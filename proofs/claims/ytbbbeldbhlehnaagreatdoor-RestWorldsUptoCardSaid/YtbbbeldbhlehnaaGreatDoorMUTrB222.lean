/- Parts of a proof, laid together. -/
import Derived.Lib.Overlaps
import Derived.Lib.AppendZerosOnto
import Derived.Laws.CopyRow
import Derived.Laws.NewBlocks
import Derived.Deep.RegionLaw
import Derived.Test.YtbbbeldbhlehnaaGreatDoorMUTrB221
import Derived.Test.YtbbbeldbhlehnaaGreatDoorMUTrB28
set_option linter.unusedSimpArgs false
set_option linter.unusedVariables false
section
set_option maxRecDepth 100000
namespace Gno
open Go Go.RowKit
def edCells (x : Eg) : List Value := [.int .u8 x.c, .int .i64 x.to]
def eds (l : List Eg) : List Value := l.flatMap edCells
theorem eds_app (l m : List Eg) : eds (l ++ m) = eds l ++ eds m := by unfold eds; simp
theorem eds_cons (x : Eg) (l : List Eg) : eds (x :: l) = edCells x ++ eds l := by unfold eds; simp
theorem eds_len (l : List Eg) : (eds l).length = l.length * 2 := by
 induction l with
 | nil => rfl
 | cons a t ih => rw [eds_cons, List.length_append, ih, List.length_cons]; simp [edCells]; omega
theorem eds_one {l : List Eg} : ∀ u ∈ eds l, u.oneCell' = true := by
 intro u hu
 unfold eds at hu
 obtain ⟨x, _, hx⟩ := List.mem_flatMap.1 hu
 simp [edCells] at hx
 rcases hx with rfl | rfl <;> rfl
theorem eds_take (l : List Eg) (i : Nat) : (eds l).take (i * 2) = eds (l.take i) := by
 conv => lhs; rw [← List.take_append_drop i l, eds_app]
 by_cases h : i ≤ l.length
 ·rw [List.take_append_of_le_length (by rw [eds_len, List.length_take]; omega), List.take_of_length_le (by rw [eds_len, List.length_take]; omega)]
 ·rw [List.drop_eq_nil_of_le (by omega), List.take_of_length_le (l := l) (by omega)]
  rw [List.take_of_length_le (by rw [List.length_append, eds_len]; simp [eds]; omega)]
  simp [eds]
theorem eds_drop (l : List Eg) (i : Nat) : (eds l).drop (i * 2) = eds (l.drop i) := by
 have h1 := List.take_append_drop (i * 2) (eds l)
 have h2 : eds l = eds (l.take i) ++ eds (l.drop i) := by rw [← eds_app, List.take_append_drop]
 rw [eds_take] at h1
 conv at h1 => rhs; rw [h2]
 exact List.append_cancel_left h1
end Gno
namespace Go.Proofs.YtbbbeldbhlehnaaGreatDoor
open Go.RowKit Gno
section
variable {P : Program}
theorem run_copy_rowk (w : World) (dT sT ty elem : TypeId) (k : Nat) (g o dLen dCap : Nat) (a : Addr) (sLen sCap : Nat) (cur : Array Value) (t : TypeId) (cs : List Value)
 (hu : P.underlying dT = some (.slice elem)) (hs : (P.info? elem).map (·.size) = some k)
 (hg : w.heap[g]? = some (.cells cur t (0, 0))) (hn : cs.length = Nat.min sLen dLen * k)
 (hsrc : ∀ j v, cs[j]? = some v → w.cell? (a.add j) = some v) (hfit : o + cs.length ≤ cur.size) (h1 : ∀ v ∈ cs, v.oneCell' = true) :
 (Builtin.copy_ #[dT, sT] ty #[.slice (some ⟨g, o, none⟩) dLen dCap, .slice (some a) sLen sCap]).run P w =
  .ok (goInt (Nat.min sLen dLen)) (w.setRow g (cur.toList.take o ++ cs ++ cur.toList.drop (o + cs.length)).toArray) := by
 have hl := run_loadCells_list (P := P) w a cs hsrc
 have hst := run_storeCells_at P g o t cs 0 cur w hg (by simpa using hfit) h1
 cases hq : P.info? elem with
 | none => simp [hq] at hs
 | some i =>
   have hi : i.size = k := by simpa [hq] using hs
   simp [Builtin.copy_, run_underlying hu, Builtin.lenOf, Builtin.firstCells, sizeOf, typeInfo, hq, hi, ← hn, hl, hst]
theorem wp_copy_runE (w : World) {o : Oper} {a : Act} {K : Act → World → Prop} {Q : Exit → Act → World → Prop} (d s : Operand) (t t' : TypeId)
 (ho : o.op = .call { callee := .builtin .copy, args := #[d, s], argTypes := #[t, t'] }) (v u : Value) (hd : a.eval d = v) (hs : a.eval s = u) {v' : Value} {w' : World}
 (hr : (Builtin.copy_ #[t, t'] o.type #[v, u]).run P w = .ok v' w') (h : K (a.put o.dst v') w') : o.wp P a w K Q := by
 unfold Oper.wp execOp
 simp only [ho, resolve, invoke, builtin, Sem.run_bind, Sem.run_pure, Result.andThen_ok, List.map_toArray, List.map_cons, List.map_nil, hd, hs, hr]
 exact h
theorem wpList_copy_runE (w : World) {ops : Array Oper} {rest : List Oper} {o : Oper} {a : Act} {Q : Exit → Act → World → Prop} (hgd : o.guard = none) (d s : Operand) (t t' : TypeId)
 (ho : o.op = .call { callee := .builtin .copy, args := #[d, s], argTypes := #[t, t'] }) (v u : Value) (hd : a.eval d = v) (hs : a.eval s = u) {v' : Value} {w' : World}
 (hr : (Builtin.copy_ #[t, t'] o.type #[v, u]).run P w = .ok v' w') (h : wpList P ops Q rest (a.put o.dst v') w') : wpList P ops Q (o :: rest) a w :=
 wpList_plain hgd fun _ hK => wp_copy_runE w d s t t' ho v u hd hs hr (hK _ _ h)
theorem step_copy_runE {ops : Array Oper} {o : Oper} {a : Act} {w : World} {K : Act → World → Prop} {Q : Exit → Act → World → Prop} {E : Prop}
 (hg : o.guard = none) (d x : Operand) (dT sT : TypeId) (hop : o.op = Op.call { callee := Callee.builtin Builtin.copy, args := #[d, x], argTypes := #[dT, sT] })
 (v u : Value) (hd : a.eval d = v) (hx : a.eval x = u) {v' : Value} {w' : World} (hr : (Builtin.copy_ #[dT, sT] o.type #[v, u]).run P w = .ok v' w') (hK : K (a.put o.dst v') w') :
 if Region.wanted o (yielded ops a.tmps) = true then Oper.wp P o a w K Q else E := by
 have hw : Region.wanted o (yielded ops a.tmps) = true := by simp [Region.wanted, hg]
 rw [if_pos hw]
 exact wp_copy_runE w d x dT sT hop v u hd hx hr hK
theorem wpList_append_runE (w : World) {ops : Array Oper} {rest : List Oper} {o : Oper} {a : Act} {Q : Exit → Act → World → Prop} (hgd : o.guard = none) (d s : Operand) (t t' : TypeId)
 (ho : o.op = .call { callee := .builtin .append, args := #[d, s], argTypes := #[t, t'] }) (v u : Value) (hd : a.eval d = v) (hs : a.eval s = u) {v' : Value} {w' : World}
 (hr : (Builtin.append_ #[t, t'] o.type #[v, u]).run P w = .ok v' w') (h : wpList P ops Q rest (a.put o.dst v') w') : wpList P ops Q (o :: rest) a w :=
 wpList_plain hgd fun _ hK => by
  unfold Oper.wp execOp
  simp only [ho, resolve, invoke, builtin, Sem.run_bind, Sem.run_pure, Result.andThen_ok, List.map_toArray, List.map_cons, List.map_nil, hd, hs, hr]
  exact hK _ _ h
end
theorem infoEdge : (Tryz.prog.info? 72).map (fun i => (i.zero, i.size, i.bytes)) = some (some (.agg #[.int .u8 0, .int .i64 0]), 2, 16) := by kernel_rfl
theorem sizeEdge : (Tryz.prog.info? 72).map (·.size) = some 2 := by kernel_rfl
def InsR (B : Nat) (v : Value) (n : Nat) (ys : List Eg) (w : World) (e : Ending) (w' : World) : Prop :=
 ∃ v', e = .returned v' ∧ w'.ownsRow B 72 2 v' (n + 1) (eds ys) ∧ w.grownBy w' v.ownBlock ∧ NearOr w v v'
theorem addLit (g o j : Nat) : (⟨g, o, none⟩ : Addr).add j = ⟨g, o + j, none⟩ := by unfold Addr.add; split <;> simp_all
set_option maxHeartbeats 4000000 in
theorem ins_end (B : Nat) (v : Value) (n : Nat) (l : List Eg) (x : Eg) (xb : Nat) (w : World) (hown : w.ownsRow B 72 2 v n (eds l)) (hB : B ≤ w.heap.size) (hn : n ≤ 1000) (hx : w.heap[xb]? = some (.cells #[.int .u8 x.c, .int .i64 x.to] 72 (0, 0))) :
 Calls Tryz.prog 66 #[v, .int .i64 n, .slice (some ⟨xb, 0, none⟩) 1 1] w (InsR B v n (l ++ [x]) w) := by
 have hnews : ∀ j u, (edCells x)[j]? = some u → w.cell? ((⟨xb, 0, none⟩ : Addr).add j) = some u := fun j u hj => by
  rw [addLit, Nat.zero_add]
  simp [World.cell?, hx]
  match j, hj with
  | 0, hj => simpa [edCells] using hj
  | 1, hj => simpa [edCells] using hj
 obtain ⟨v', w', hr, h2, h3, h4⟩ := run_append_at (P := Tryz.prog) w B 68 68 72 _ _ 2 16 Tryz.underlying68 (info_parts infoEdge).choose_spec.1 (info_parts infoEdge).choose_spec.2.1 (info_parts infoEdge).choose_spec.2.2.1 (info_parts infoEdge).choose_spec.2.2.2 rfl (by decide) v n (eds l) hown ⟨xb, 0, none⟩ 1 1 (edCells x) rfl hnews (fun u hu => eds_one (l := [x]) u (by simpa [eds] using hu)) (by unfold maxLen; omega) (by omega) hB
 have HR : Hid (InsR B v n (l ++ [x]) w (.returned v') w') := Lib.hid ⟨v', rfl, by rw [eds_app]; simpa [eds] using h2, h3, h4⟩
 rcases hown.2 with ⟨rfl, rfl⟩ | ⟨g, cap, cur, rfl, hbg, hg, hnc, hcm, hcs, htk⟩
 ·clear hown hx hnews h2 h3 h4
  go_enter Tryz.func66, Tryz.ntmps66
  go_wp2_with (at_builtin; refine wpList_append_runE _ rfl _ _ _ _ rfl _ _ rfl rfl hr ?_)
  go_ret
  exact HR.out
 ·unfold maxLen at hcm
  have hcn : (n : Int) ≤ (cap : Int) := by omega
  clear hown hx hnews h2 h3 h4 hg hcs htk
  by_cases hce : cap = n
  ·subst hce
   go_enter Tryz.func66, Tryz.ntmps66
   go_wp2_with (at_builtin; refine wpList_append_runE _ rfl _ _ _ _ rfl _ _ rfl rfl hr ?_)
   go_ret
   exact HR.out
  ·go_enter Tryz.func66, Tryz.ntmps66
   go_wp2_with (at_builtin; refine wpList_append_runE _ rfl _ _ _ _ rfl _ _ rfl rfl hr ?_)
   go_ret
   exact HR.out
end Go.Proofs.YtbbbeldbhlehnaaGreatDoor
end
section
set_option maxRecDepth 100000
namespace Gno
open Go Go.RowKit
theorem min_a {n i m : Nat} (hi : i < n) (hm : m = 1) : Nat.min (n + m - i) (n + m - (i + m)) = n - i := by
 simp only [Nat.min_def]; split <;> omega
theorem min_b {n i m : Nat} (hi : i < n) (hm : m = 1) : Nat.min m (n + m - i) = 1 := by
 simp only [Nat.min_def]; split <;> omega
theorem min_c {n i m : Nat} (hi : i < n) (hm : m = 1) : Nat.min (n - i) (n + m - (i + m)) = n - i := by
 simp only [Nat.min_def]; split <;> omega
theorem cells_shift {cur : List Value} {l : List Eg} {x : Eg} {n i cap : Nat} (hi : i < n) (hl : l.length = n) (hc : n + 1 ≤ cap) (hs : cur.length = cap * 2) (ht : cur.take (n * 2) = eds l)
 {c1 c2 : List Value} (h1 : c1 = cur.take (i * 2 + 2) ++ eds (l.drop i) ++ cur.drop (i * 2 + 2 + (eds (l.drop i)).length)) (h2 : c2 = c1.take (i * 2) ++ edCells x ++ c1.drop (i * 2 + (edCells x).length)) :
 c2.length = cap * 2 ∧ c2.take ((n + 1) * 2) = eds (l.take i ++ x :: l.drop i) := by
 have hd : (eds (l.drop i)).length = (n - i) * 2 := by rw [eds_len, List.length_drop, hl]
 have hx : (edCells x).length = 2 := rfl
 have l1 : c1.length = cap * 2 := by rw [h1]; simp only [List.length_append, List.length_take, List.length_drop, hd, hs]; omega
 have l2 : c2.length = cap * 2 := by rw [h2]; simp only [List.length_append, List.length_take, List.length_drop, hx, l1]; omega
 refine ⟨l2, ?_⟩
 have e1 : c1.take (i * 2) = eds (l.take i) := by
  rw [h1, List.append_assoc, List.take_append_of_le_length (by rw [List.length_take, hs]; omega), List.take_take, Nat.min_eq_left (by omega)]
  have : cur.take (i * 2) = (cur.take (n * 2)).take (i * 2) := by rw [List.take_take, Nat.min_eq_left (by omega)]
  rw [this, ht, eds_take]
 have e2 : c1.drop (i * 2 + 2) = eds (l.drop i) ++ cur.drop (i * 2 + 2 + (n - i) * 2) := by
  rw [h1, hd, List.append_assoc, List.drop_append_of_le_length (by rw [List.length_take, hs]; omega)]
  rw [List.drop_eq_nil_of_le (by rw [List.length_take]; omega), List.nil_append]
 rw [h2, hx, e1, e2]
 have e3 : eds (l.take i) ++ edCells x ++ (eds (l.drop i) ++ cur.drop (i * 2 + 2 + (n - i) * 2)) = eds (l.take i ++ x :: l.drop i) ++ cur.drop (i * 2 + 2 + (n - i) * 2) := by
  rw [eds_app, eds_cons]; simp [List.append_assoc]
 rw [e3, List.take_append_of_le_length (by rw [eds_len]; simp [hl]; omega), List.take_of_length_le (by rw [eds_len]; simp [hl]; omega)]
end Gno
namespace Go.Proofs.YtbbbeldbhlehnaaGreatDoor
open Go.RowKit Gno
set_option maxHeartbeats 8000000 in
set_option maxRecDepth 100000 in
theorem ins_room (B g cap n i m vc : Nat) (hm : m = 1) (l : List Eg) (x : Eg) (xb : Nat) (w : World) (cur : Array Value) (hgB : B ≤ g) (hg : w.heap[g]? = some (.cells cur 72 (0, 0))) (hcs : cur.size = cap * 2) (htk : cur.toList.take (n * 2) = eds l) (hl : l.length = n)
 (hi : i < n) (hroom : n + m ≤ cap) (hc63 : cap ≤ 9223372036854775807) (hx : w.heap[xb]? = some (.cells #[.int .u8 x.c, .int .i64 x.to] 72 (0, 0))) (hne : xb ≠ g) :
 Calls Tryz.prog 66 #[.slice (some ⟨g, 0, none⟩) n cap, .int .i64 i, .slice (some ⟨xb, 0, none⟩) m vc] w (InsR B (.slice (some ⟨g, 0, none⟩) n cap) n (l.take i ++ x :: l.drop i) w) := by
 have hnews : ∀ j u, (edCells x)[j]? = some u → w.cell? ((⟨xb, 0, none⟩ : Addr).add j) = some u := fun j u hj => by
  rw [addLit, Nat.zero_add]
  simp [World.cell?, hx]
  match j, hj with
  | 0, hj => simpa [edCells] using hj
  | 1, hj => simpa [edCells] using hj
 have hsz : cur.toList.length = cap * 2 := by rw [Array.length_toList]; exact hcs
 have hd : (eds (l.drop i)).length = (n - i) * 2 := by rw [eds_len, List.length_drop, hl]
 have hold : ∀ j u, (eds (l.drop i))[j]? = some u → w.cell? ⟨g, i * 2 + j, none⟩ = some u := fun j u hj => by
  have h1 : (eds l)[i * 2 + j]? = some u := by rw [← List.getElem?_drop, eds_drop]; exact hj
  rw [← htk, List.getElem?_take] at h1
  split at h1
  ·simp only [World.cell?, hg]
   simpa using h1
  ·cases h1
 obtain ⟨c1, hc1⟩ : ∃ c1 : List Value, c1 = cur.toList.take (i * 2 + 2) ++ eds (l.drop i) ++ cur.toList.drop (i * 2 + 2 + (eds (l.drop i)).length) := ⟨_, rfl⟩
 obtain ⟨c2, hc2⟩ : ∃ c2 : List Value, c2 = c1.take (i * 2) ++ edCells x ++ c1.drop (i * 2 + (edCells x).length) := ⟨_, rfl⟩
 have hfin := cells_shift hi hl (by omega) hsz htk hc1 hc2
 have l1 : c1.length = cap * 2 := by rw [hc1]; simp only [List.length_append, List.length_take, List.length_drop, hd, hsz]; omega
 have hcp1 : ∀ ty dc sc, (Builtin.copy_ #[68, 68] ty #[.slice (some ⟨g, (i + m) * 2, none⟩) (n + m - (i + m)) dc, .slice (some ⟨g, i * 2, none⟩) (n + m - i) sc]).run Tryz.prog w.drew = .ok (goInt ((n - i : Nat) : Int)) (w.drew.setRow g c1.toArray) := fun ty dc sc => by
  have h := run_copy_rowk (P := Tryz.prog) w.drew 68 68 ty 72 2 g ((i + m) * 2) (n + m - (i + m)) dc ⟨g, i * 2, none⟩ (n + m - i) sc cur 72 (eds (l.drop i)) Tryz.underlying68 sizeEdge hg
   (by rw [min_a hi hm]; exact hd) (fun j u hj => by rw [addLit]; exact hold j u hj) (by rw [hd, hcs, hm]; omega) eds_one
  rw [min_a hi hm] at h
  rw [h, hc1, hm, show (i + 1) * 2 = i * 2 + 2 by omega]
 obtain ⟨W1, hW1⟩ : ∃ W1, W1 = w.drew.setRow g c1.toArray := ⟨_, rfl⟩
 have hgl : g < w.heap.size := lt_of_block hg
 have hg1 : W1.heap[g]? = some (.cells c1.toArray 72 (0, 0)) := by rw [hW1]; exact setRow_heap w.drew g cur _ _ _ hg
 have hcp2 : ∀ ty dc, (Builtin.copy_ #[68, 68] ty #[.slice (some ⟨g, i * 2, none⟩) (n + m - i) dc, .slice (some ⟨xb, 0, none⟩) m vc]).run Tryz.prog W1 = .ok (goInt ((1 : Nat) : Int)) (W1.setRow g c2.toArray) := fun ty dc => by
  have h := run_copy_rowk (P := Tryz.prog) W1 68 68 ty 72 2 g (i * 2) (n + m - i) dc ⟨xb, 0, none⟩ m vc c1.toArray 72 (edCells x) Tryz.underlying68 sizeEdge hg1
   (by rw [min_b hi hm]; rfl) (fun j u hj => by rw [hW1, World.cell?_of_block (w := w) (setRow_other w.drew g _ _ (by rw [addLit]; exact hne))]; exact hnews j u hj) (by rw [List.size_toArray, l1]; show i * 2 + 2 ≤ _; omega) (fun u hu => eds_one (l := [x]) u (by simpa [eds] using hu))
  rw [min_b hi hm] at h
  rw [h, hc2, List.toList_toArray]
 have hov : ∀ lb cb, (callFunc 145 #[.slice (some ⟨xb, 0, none⟩) m vc, .slice (some ⟨g, (i + m) * 2, none⟩) lb cb]).run Tryz.prog w = .ok (.value (.bool false)) w := fun lb cb => by
  rw [run_callFunc_extern Tryz.func145 (by kernel_rfl) (by kernel_rfl) (by kernel_rfl) (e := Extern.SlicesOverlaps.overlaps #[68, 68] #[4]) (by kernel_rfl),
   Lib.run_overlaps_apart w 68 4 72 Tryz.underlying68 2 Tryz.sizeOf72 ⟨xb, 0, none⟩ ⟨g, (i + m) * 2, none⟩ m vc lb cb hne 72 72 2 (cap * 2) (by simp [World.shape?, hx]) (by simp [World.shape?, hg, hcs]) (by omega) (by simp [World.frozen?, hx]) (by simp [World.frozen?, hx])]
  rfl
 have HR : Hid (InsR B (.slice (some ⟨g, 0, none⟩) n cap) n (l.take i ++ x :: l.drop i) w (.returned (.slice (some ⟨g, 0, none⟩) (n + m) cap)) (W1.setRow g c2.toArray)) := Lib.hid (by
  have hb : (W1.setRow g c2.toArray).heap[g]? = some (.cells c2.toArray 72 (0, 0)) := setRow_heap W1 g _ _ _ _ hg1
  refine ⟨_, rfl, ⟨by rw [eds_len]; simp [hl]; omega, .inr ⟨g, cap, c2.toArray, by rw [hm], hgB, hb, by omega, by unfold maxLen; omega, by simpa using hfin.1, by simpa using hfin.2⟩⟩, ⟨by rw [hW1]; rfl, by rw [hW1]; rfl, by rw [hW1]; rfl, by rw [hW1]; simp [World.setRow], fun k hk hne => ?_⟩, .inl rfl⟩
  have hkg : k ≠ g := fun e => hne (by rw [e]; rfl)
  rw [setRow_other _ _ _ _ hkg, hW1, setRow_other _ _ _ _ hkg]
  rfl)
 have hz1 : ¬ ((m : Int) = 0) := by omega
 have hz2 : ¬ ((i : Int) = (n : Int)) := by omega
 have hw1 : IntKind.i64.wrap ((i : Int) + (m : Int)) = (i : Int) + (m : Int) := by rw [IntKind.wrap_i64]; omega
 have hb1 : (0 : Int) ≤ (i : Int) + (m : Int) := by omega
 have hin : i ≤ n := by omega
 have htn : ((i : Int) + (m : Int)).toNat = i + m := by omega
 have hb2 : ¬ (cap = i + m) := by omega
 have hb3 : (i : Int) ≤ (n : Int) + (m : Int) := by omega
 have hb4 : ¬ (cap = i) := by omega
 rw [← hW1] at hcp1
 clear hx hnews hsz hd hold hc1 hc2 hfin l1 hg1 hW1 hg hcs htk hl hm
 go_enter Tryz.func66, Tryz.ntmps66
 go_wp2_with (simp only [hov])
 go_region_law (refine step_copy_runE rfl _ _ 68 68 rfl _ _ (by simp [Act.eval, Act.put]) (by simp [Act.eval, Act.put]) (hcp1 _ _ _) ?_)
 go_wp2_with (at_builtin; refine wpList_copy_runE _ rfl _ _ 68 68 rfl _ _ rfl rfl (hcp2 _ _) ?_)
 go_ret
 exact HR.out
end Go.Proofs.YtbbbeldbhlehnaaGreatDoor
end
section
set_option maxRecDepth 100000
namespace Gno
open Go Go.RowKit
theorem cells_grow {row : List Value} {l : List Eg} {x : Eg} {n i cap : Nat} (hi : i < n) (hl : l.length = n) (hc : n + 1 ≤ cap) (hs : row.length = cap * 2) (ht : row.take (i * 2) = eds (l.take i))
 {c1 c2 : List Value} (h1 : c1 = row.take (i * 2) ++ edCells x ++ row.drop (i * 2 + (edCells x).length)) (h2 : c2 = c1.take (i * 2 + 2) ++ eds (l.drop i) ++ c1.drop (i * 2 + 2 + (eds (l.drop i)).length)) :
 c2.length = cap * 2 ∧ c2.take ((n + 1) * 2) = eds (l.take i ++ x :: l.drop i) := by
 have hd : (eds (l.drop i)).length = (n - i) * 2 := by rw [eds_len, List.length_drop, hl]
 have hx : (edCells x).length = 2 := rfl
 have l1 : c1.length = cap * 2 := by rw [h1]; simp only [List.length_append, List.length_take, List.length_drop, hx, hs]; omega
 have l2 : c2.length = cap * 2 := by rw [h2]; simp only [List.length_append, List.length_take, List.length_drop, hd, l1]; omega
 refine ⟨l2, ?_⟩
 have e1 : c1.take (i * 2 + 2) = eds (l.take i) ++ edCells x := by
  rw [h1, List.take_append_of_le_length (by simp only [List.length_append, List.length_take, hx, hs]; omega), ht, List.take_of_length_le (by rw [List.length_append, eds_len, hx, List.length_take]; omega)]
 rw [h2, e1]
 have e3 : eds (l.take i) ++ edCells x ++ eds (l.drop i) = eds (l.take i ++ x :: l.drop i) := by
  rw [eds_app, eds_cons]; simp [List.append_assoc]
 rw [e3, List.take_append_of_le_length (by rw [eds_len]; simp [hl]; omega), List.take_of_length_le (by rw [eds_len]; simp [hl]; omega)]
end Gno
namespace Go.Proofs.YtbbbeldbhlehnaaGreatDoor
open Go.RowKit Gno
set_option maxHeartbeats 8000000 in
set_option maxRecDepth 100000 in
theorem ins_grow (B g cap n i m vc : Nat) (hm : m = 1) (l : List Eg) (x : Eg) (xb : Nat) (w : World) (cur : Array Value) (hB : B ≤ w.heap.size) (hg : w.heap[g]? = some (.cells cur 72 (0, 0))) (hcs : cur.size = cap * 2) (htk : cur.toList.take (n * 2) = eds l) (hl : l.length = n)
 (hi : i < n) (hnc : n ≤ cap) (hroom : cap < n + m) (hn : n ≤ 1000) (hx : w.heap[xb]? = some (.cells #[.int .u8 x.c, .int .i64 x.to] 72 (0, 0))) (hne : xb ≠ g) :
 Calls Tryz.prog 66 #[.slice (some ⟨g, 0, none⟩) n cap, .int .i64 i, .slice (some ⟨xb, 0, none⟩) m vc] w (InsR B (.slice (some ⟨g, 0, none⟩) n cap) n (l.take i ++ x :: l.drop i) w) := by
 have hgl : g < w.heap.size := lt_of_block hg
 have hxl : xb < w.heap.size := lt_of_block hx
 have hd : (eds (l.drop i)).length = (n - i) * 2 := by rw [eds_len, List.length_drop, hl]
 have hall : ∀ j u, (eds l)[j]? = some u → w.cell? ⟨g, j, none⟩ = some u := fun j u hj => by
  rw [← htk, List.getElem?_take] at hj
  split at hj
  ·simp only [World.cell?, hg]
   simpa using hj
  ·cases hj
 obtain ⟨i0, hi0, hz0, hzs, hzb⟩ := info_parts infoEdge
 have hkk : (n : Int) + (m : Int) - (i : Int) = ((n + m - i : Nat) : Int) := by omega
 have hik : i + (n + m - i) = n + m := by omega
 have hold : (Builtin.firstCells i0.size i (.slice (some ⟨g, 0, none⟩) i cap)).run Tryz.prog w.drew = .ok (eds (l.take i)).toArray w.drew := by
  rw [hzs]
  exact run_firstCells_some w.drew 2 i ⟨g, 0, none⟩ i cap (eds (l.take i)) (by rw [eds_len, List.length_take]; omega) (fun j v hj => by
   rw [addLit, Nat.zero_add]
   refine hall j v ?_
   rw [← eds_take, List.getElem?_take] at hj
   split at hj
   ·exact hj
   ·cases hj)
 obtain ⟨G, hG⟩ : ∃ G, G = grownCap w (n + m) cap 72 := ⟨_, rfl⟩
 have hGn : n + m ≤ G := by rw [hG]; exact grownCap_ge w _ _ _
 have hG63 : G ≤ 9223372036854775807 := by
  have := grownCap_le_maxLen w (n + m) cap 72 (by unfold maxLen; omega)
  rw [← hG] at this
  unfold maxLen at this
  omega
 obtain ⟨ROW, hROW⟩ : ∃ ROW : Array Value, ROW = (eds (l.take i)).toArray ++ Builtin.zeroCells (Value.agg #[.int .u8 0, .int .i64 0]).cells (n + m - i) ++ Builtin.zeroCells (Value.agg #[.int .u8 0, .int .i64 0]).cells (G - (n + m)) := ⟨_, rfl⟩
 have hrz : ∀ ty, (Builtin.append_ #[68, 3] ty #[.slice (some ⟨g, 0, none⟩) i cap, .int .i64 ((n : Int) + (m : Int) - (i : Int))]).run Tryz.prog w =
  .ok (.slice (some ⟨w.heap.size, 0, none⟩) (n + m) G) (w.drew.alloc (.cells ROW 72)) := fun ty => by
  have h := Lib.run_append_grow_zeros (P := Tryz.prog) w 68 3 ty 72 i0 _ .i64 .i64 Tryz.underlying68 Tryz.underlying3 hi0 hz0 (some ⟨g, 0, none⟩) i cap (eds (l.take i)) hold (n + m - i) (by omega) (by omega) (by omega) (by omega) (by rw [hzb]; omega) (by rw [hzb, hik]; exact growslice_fits hroom (by omega))
  rw [hik, ← hG] at h
  rw [hkk, hROW]
  exact h
 have hRs : ROW.size = G * 2 := by
  rw [hROW]
  simp [Builtin.zeroCells, Value.cells, eds_len, hl]
  omega
 have hRl : ROW.toList.length = G * 2 := by rw [Array.length_toList]; exact hRs
 have hRt : ROW.toList.take (i * 2) = eds (l.take i) := by
  rw [hROW]
  simp only [Array.toList_append, List.append_assoc]
  rw [List.take_append_of_le_length (by simp [eds_len, hl]; omega), List.take_of_length_le (by simp [eds_len]; omega)]
 obtain ⟨H, hH⟩ : ∃ H, H = w.heap.size := ⟨_, rfl⟩
 obtain ⟨W0, hW0⟩ : ∃ W0, W0 = w.drew.alloc (.cells ROW 72) := ⟨_, rfl⟩
 have hs0 : W0.heap.size = H + 1 := by rw [hW0, hH]; simp
 have hh0 : W0.heap[H]? = some (.cells ROW 72 (0, 0)) := by rw [hW0, hH]; exact World.alloc_heap_new w.drew _
 have ho0 : ∀ k, k < H → W0.heap[k]? = w.heap[k]? := fun k hk => by rw [hW0]; exact Below.heap_alloc w.drew _ _ (by rw [hH] at hk; exact hk)
 rw [← hH, ← hW0] at hrz
 rw [← hH] at hgl hxl hB
 obtain ⟨c1, hc1⟩ : ∃ c1 : List Value, c1 = ROW.toList.take (i * 2) ++ edCells x ++ ROW.toList.drop (i * 2 + (edCells x).length) := ⟨_, rfl⟩
 obtain ⟨c2, hc2⟩ : ∃ c2 : List Value, c2 = c1.take (i * 2 + 2) ++ eds (l.drop i) ++ c1.drop (i * 2 + 2 + (eds (l.drop i)).length) := ⟨_, rfl⟩
 have hfin := cells_grow hi hl (by omega) hRl hRt hc1 hc2
 have l1 : c1.length = G * 2 := by rw [hc1]; simp only [List.length_append, List.length_take, List.length_drop, show (edCells x).length = 2 from rfl, hRl]; omega
 have hcA : ∀ ty dc, (Builtin.copy_ #[68, 68] ty #[.slice (some ⟨H, i * 2, none⟩) (n + m - i) dc, .slice (some ⟨xb, 0, none⟩) m vc]).run Tryz.prog W0 = .ok (goInt ((1 : Nat) : Int)) (W0.setRow H c1.toArray) := fun ty dc => by
  have h := run_copy_rowk (P := Tryz.prog) W0 68 68 ty 72 2 H (i * 2) (n + m - i) dc ⟨xb, 0, none⟩ m vc ROW 72 (edCells x) Tryz.underlying68 sizeEdge hh0
   (by rw [min_b hi hm]; rfl) (fun j u hj => by
    rw [addLit, Nat.zero_add]
    simp [World.cell?, ho0 xb hxl, hx]
    match j, hj with
    | 0, hj => simpa [edCells] using hj
    | 1, hj => simpa [edCells] using hj) (by rw [hRs]; show i * 2 + 2 ≤ _; omega) (fun u hu => eds_one (l := [x]) u (by simpa [eds] using hu))
  rw [min_b hi hm] at h
  rw [h, hc1]
 obtain ⟨W1, hW1⟩ : ∃ W1, W1 = (W0.setRow H c1.toArray).drew := ⟨_, rfl⟩
 have hh1 : W1.heap[H]? = some (.cells c1.toArray 72 (0, 0)) := by rw [hW1]; exact setRow_heap W0 H _ _ _ _ hh0
 have ho1 : ∀ k, k < H → W1.heap[k]? = w.heap[k]? := fun k hk => by rw [hW1]; exact (setRow_other W0 H k _ (by omega)).trans (ho0 k hk)
 have hcB : ∀ ty dc sc, (Builtin.copy_ #[68, 68] ty #[.slice (some ⟨H, (i + m) * 2, none⟩) (n + m - (i + m)) dc, .slice (some ⟨g, i * 2, none⟩) (n - i) sc]).run Tryz.prog W1 = .ok (goInt ((n - i : Nat) : Int)) (W1.setRow H c2.toArray) := fun ty dc sc => by
  have h := run_copy_rowk (P := Tryz.prog) W1 68 68 ty 72 2 H ((i + m) * 2) (n + m - (i + m)) dc ⟨g, i * 2, none⟩ (n - i) sc c1.toArray 72 (eds (l.drop i)) Tryz.underlying68 sizeEdge hh1
   (by rw [min_c hi hm]; exact hd) (fun j u hj => by
    rw [addLit, World.cell?_of_block (w := w) (ho1 g hgl)]
    exact hall _ u (by rw [← List.getElem?_drop, eds_drop]; exact hj)) (by rw [hd, List.size_toArray, l1, hm]; omega) eds_one
  rw [min_c hi hm] at h
  rw [h, hc2, hm, show (i + 1) * 2 = i * 2 + 2 by omega, List.toList_toArray]
 have HR : Hid (InsR B (.slice (some ⟨g, 0, none⟩) n cap) n (l.take i ++ x :: l.drop i) w (.returned (.slice (some ⟨H, 0, none⟩) (n + m) G)) (W1.setRow H c2.toArray)) := Lib.hid (by
  have hb : (W1.setRow H c2.toArray).heap[H]? = some (.cells c2.toArray 72 (0, 0)) := setRow_heap W1 H _ _ _ _ hh1
  refine ⟨_, rfl, ⟨by rw [eds_len]; simp [hl]; omega, .inr ⟨H, G, c2.toArray, by rw [hm], hB, hb, by omega, by unfold maxLen; omega, by simpa using hfin.1, by simpa using hfin.2⟩⟩, ⟨by rw [hW1, hW0]; rfl, by rw [hW1, hW0]; rfl, by rw [hW1, hW0]; rfl, by rw [hW1, hW0]; simp [World.setRow] <;> omega, fun k hk hne => ?_⟩, .inr fun k hk => ?_⟩
  ·rw [← hH] at hk
   rw [setRow_other _ _ _ _ (by omega)]
   exact ho1 k hk
  ·simp [Value.ownBlock] at hk
   omega)
 have hz1 : ¬ ((m : Int) = 0) := by omega
 have hz2 : ¬ ((i : Int) = (n : Int)) := by omega
 have hz3 : (cap : Int) < (n : Int) + (m : Int) := by omega
 have hGi : ¬ (G = i) := by omega
 have hGim : ¬ (G = i + m) := by omega
 have hci : ¬ (cap = i) := by omega
 have hw1 : IntKind.i64.wrap ((i : Int) + (m : Int)) = (i : Int) + (m : Int) := by rw [IntKind.wrap_i64]; omega
 have hb1 : (0 : Int) ≤ (i : Int) + (m : Int) := by omega
 have hin : i ≤ n := by omega
 have htn : ((i : Int) + (m : Int)).toNat = i + m := by omega
 have hb3 : (i : Int) ≤ (n : Int) := by omega
 have hcap : cap ≤ 9223372036854775807 := by omega
 have hWd : (W0.setRow H c1.toArray).drew = W1 := hW1.symm
 clear hx hd hall hold hc1 hc2 hfin l1 hh1 hW1 hg hcs htk hl hm hkk hik hROW hG hRl hRs hRt hh0 ho0 ho1 hW0 hs0 hH hi0 hz0 hzs hzb
 go_enter Tryz.func66, Tryz.ntmps66
 go_wp2_with (first
  | (at_builtin; refine wpList_append_runE _ rfl _ _ _ _ rfl _ _ rfl rfl (hrz _) ?_)
  | (at_builtin; refine wpList_copy_runE _ rfl _ _ 68 68 rfl _ _ rfl rfl (hcA _ _) ?_))
 go_region_law (refine step_copy_runE rfl _ _ 68 68 rfl (.slice (some ⟨H, (i + m) * 2, none⟩) (n + m - (i + m)) (G - (i + m))) (.slice (some ⟨g, i * 2, none⟩) (n - i) (cap - i)) (by simp [Act.eval, Act.put]) (by simp [Act.eval, Act.put]) (by rw [hWd]; exact hcB _ _ _) ?_)
 go_wp2
 go_ret
 exact HR.out
theorem ins_any (B : Nat) (v : Value) (n i : Nat) (l : List Eg) (x : Eg) (xb : Nat) (w : World) (hown : w.ownsRow B 72 2 v n (eds l)) (hB : B ≤ w.heap.size) (hn : n ≤ 1000) (hi : i ≤ n) (hx : w.heap[xb]? = some (.cells #[.int .u8 x.c, .int .i64 x.to] 72 (0, 0))) (hne : v.ownBlock ≠ some xb) :
 Calls Tryz.prog 66 #[v, .int .i64 i, .slice (some ⟨xb, 0, none⟩) 1 1] w (InsR B v n (l.take i ++ x :: l.drop i) w) := by
 have hl : l.length = n := by have := hown.1; rw [eds_len] at this; omega
 by_cases he : i = n
 ·subst he
  rw [List.take_of_length_le (by omega), List.drop_eq_nil_of_le (by omega)]
  exact ins_end B v i l x xb w hown hB hn hx
 ·rcases hown.2 with ⟨_, h0⟩ | ⟨g, cap, cur, rfl, hbg, hg, hnc, hcm, hcs, htk⟩
  ·omega
  ·have hng : xb ≠ g := fun e => hne (by rw [e]; rfl)
   unfold maxLen at hcm
   by_cases hroom : n + 1 ≤ cap
   ·exact ins_room B g cap n i 1 1 rfl l x xb w cur hbg hg hcs htk hl (by omega) hroom (by omega) hx hng
   ·exact ins_grow B g cap n i 1 1 rfl l x xb w cur hB hg hcs htk hl (by omega) hnc (by omega) hn hx hng
end Go.Proofs.YtbbbeldbhlehnaaGreatDoor
end
section
set_option maxRecDepth 100000
namespace Gno
open Go Go.RowKit Go.Proofs.YtbbbeldbhlehnaaGreatDoor
def pcCells (p : Value × Nd) : List Value := [p.1, .int .i64 p.2.word]
def pcs (l : List (Value × Nd)) : List Value := l.flatMap pcCells
theorem pcs_cons (p : Value × Nd) (l : List (Value × Nd)) : pcs (p :: l) = p.1 :: .int .i64 p.2.word :: pcs l := rfl
theorem pcs_app (l m : List (Value × Nd)) : pcs (l ++ m) = pcs l ++ pcs m := by unfold pcs; simp
theorem pcs_get : ∀ (l : List (Value × Nd)) (i : Nat) (p : Value × Nd), l[i]? = some p → (pcs l)[i * 2]? = some p.1 ∧ (pcs l)[i * 2 + 1]? = some (.int .i64 p.2.word)
 | a :: t, 0, p, h => by
   obtain rfl : a = p := by simpa using h
   exact ⟨rfl, rfl⟩
 | a :: t, i + 1, p, h => by
   have ih := pcs_get t i p (by simpa using h)
   rw [pcs_cons, show (i + 1) * 2 = i * 2 + 1 + 1 by omega]
   simp only [List.getElem?_cons_succ]
   exact ih
theorem pcs_set0 : ∀ (l : List (Value × Nd)) (i : Nat) (p q : Value × Nd), l[i]? = some p → q.2.word = p.2.word → (pcs l).set (i * 2) q.1 = pcs (l.set i q)
 | a :: t, 0, p, q, h, hw => by
   obtain rfl : a = p := by simpa using h
   show _ = pcs (q :: t)
   rw [pcs_cons, pcs_cons, hw]
   rfl
 | a :: t, i + 1, p, q, h, hw => by
   rw [pcs_cons, show (i + 1) * 2 = i * 2 + 1 + 1 by omega, List.set_cons_succ, List.set_cons_succ, List.set_cons_succ, pcs_cons, pcs_set0 t i p q (by simpa using h) hw]
theorem pcs_set1 : ∀ (l : List (Value × Nd)) (i : Nat) (p q : Value × Nd), l[i]? = some p → q.1 = p.1 → (pcs l).set (i * 2 + 1) (.int .i64 q.2.word) = pcs (l.set i q)
 | a :: t, 0, p, q, h, hw => by
   obtain rfl : a = p := by simpa using h
   rw [pcs_cons, List.set_cons_zero, pcs_cons, hw]
   rfl
 | a :: t, i + 1, p, q, h, hw => by
   rw [pcs_cons, show (i + 1) * 2 + 1 = i * 2 + 1 + 1 + 1 by omega, List.set_cons_succ, List.set_cons_succ, List.set_cons_succ, pcs_cons, pcs_set1 t i p q (by simpa using h) hw]
end Gno
namespace Go.Proofs.YtbbbeldbhlehnaaGreatDoor
open Go.RowKit Gno
theorem infoNode : (Tryz.prog.info? 70).map (fun i => (i.zero, i.size, i.bytes)) = some (some (.agg #[.slice none 0 0, .int .i64 0]), 2, 32) := by kernel_rfl
theorem own_setCell {w : World} {B : Nat} {e : TypeId} {sz g n cap : Nat} {xs : List Value} (h : w.ownsRow B e sz (.slice (some ⟨g, 0, none⟩) n cap) n xs) (j : Nat) (hj : j < n * sz) (u : Value) :
 (w.setCell ⟨g, j, none⟩ u).ownsRow B e sz (.slice (some ⟨g, 0, none⟩) n cap) n (xs.set j u) := by
 refine ⟨by rw [List.length_set]; exact h.1, .inr ?_⟩
 rcases h.2 with ⟨e1, _⟩ | ⟨g', cap', cur, e1, hb, hg, hnc, hcm, hcs, ht⟩
 ·cases e1
 ·injection e1 with e1 _ e3
  injection e1 with e1
  injection e1 with e1 _ _
  subst e1
  subst e3
  refine ⟨g, cap, cur.setIfInBounds j u, rfl, hb, ?_, hnc, hcm, by simpa using hcs, ?_⟩
  ·have hlt := lt_of_block hg
   have h' : w.heap[g] = .cells cur e (0, 0) := by simpa [Array.getElem?_eq_getElem hlt] using hg
   show (w.heap.modify g _)[g]? = _
   rw [Array.getElem?_eq_getElem (by simpa using hlt), Array.getElem_modify_self, h']
   rfl
  ·rw [← ht, Array.toList_setIfInBounds, List.take_set]
theorem own_cell {w : World} {B : Nat} {e : TypeId} {sz g n cap : Nat} {xs : List Value} (h : w.ownsRow B e sz (.slice (some ⟨g, 0, none⟩) n cap) n xs) {j : Nat} {u : Value} (hj : xs[j]? = some u) : w.cell? ⟨g, j, none⟩ = some u := by
 have := h.cells (g := g) rfl j u hj
 rwa [addLit, Nat.zero_add] at this
theorem own_free {w : World} {B : Nat} {e : TypeId} {sz g n cap : Nat} {xs : List Value} (h : w.ownsRow B e sz (.slice (some ⟨g, 0, none⟩) n cap) n xs) (j : Nat) : w.frozen? ⟨g, j, none⟩ = false := by
 rcases h.2 with ⟨e1, _⟩ | ⟨g', cap', cur, e1, hb, hg, _⟩
 ·cases e1
 ·injection e1 with e1 _ _
  injection e1 with e1
  injection e1 with e1 _ _
  subst e1
  simp [World.frozen?, hg]
structure TOwn (B : Nat) (w : World) (v : Value) (ps : List (Value × Nd)) : Prop where
 row : w.ownsRow B 70 2 v ps.length (pcs ps)
 edge : ∀ (i : Nat) p, ps[i]? = some p → w.ownsRow B 72 2 p.1 p.2.es.length (eds p.2.es)
 apart : ∀ (i : Nat) p, ps[i]? = some p → Apart v p.1
 apart2 : ∀ (i j : Nat) p q, i ≠ j → ps[i]? = some p → ps[j]? = some q → Apart p.1 q.1
 small : ∀ (i : Nat) p, ps[i]? = some p → ∀ e ∈ p.2.es, e.c ≤ 255
theorem own_form {w : World} {B : Nat} {e : TypeId} {sz n : Nat} {v : Value} {xs : List Value} (h : w.ownsRow B e sz v n xs) : ∃ A cap, v = .slice A n cap ∧ (0 < n → ∃ g, A = some ⟨g, 0, none⟩ ∧ g < w.heap.size) := by
 rcases h.2 with ⟨rfl, rfl⟩ | ⟨g, cap, cur, rfl, _, hg, _⟩
 ·exact ⟨none, 0, rfl, fun h => by omega⟩
 ·exact ⟨_, cap, rfl, fun _ => ⟨g, rfl, lt_of_block hg⟩⟩
theorem edges_own {w : World} {B n : Nat} {A : Option Addr} {cap : Nat} {l : List Eg} (h : w.ownsRow B 72 2 (.slice A n cap) n (eds l)) (hn : n ≤ maxLen) (hs : ∀ e ∈ l, e.c ≤ 255) : EdgesAt w w.heap.size A n l := by
 have hl : l.length = n := by have := h.1; rw [eds_len] at this; omega
 refine ⟨hl, hn, fun hp => ?_⟩
 obtain ⟨A', cap', e1, hf⟩ := own_form h
 injection e1 with e1 _ e3
 subst e1
 obtain ⟨g, rfl, hlt⟩ := hf hp
 refine ⟨g, 0, rfl, hlt, fun i x hx => ?_⟩
 have hd := eds_drop l i
 have hdr := drop_at hx
 have h0 : (eds l)[i * 2]? = some (.int .u8 x.c) := by
  have := List.getElem?_drop (xs := eds l) (i := i * 2) (j := 0)
  rw [hd, hdr, eds_cons] at this
  simpa [edCells] using this.symm
 have h1 : (eds l)[i * 2 + 1]? = some (.int .i64 x.to) := by
  have := List.getElem?_drop (xs := eds l) (i := i * 2) (j := 1)
  rw [hd, hdr, eds_cons] at this
  simpa [edCells] using this.symm
 exact ⟨⟨by rw [Nat.zero_add]; exact own_cell h h0, by rw [Nat.zero_add]; exact own_cell h h1⟩, hs x (List.mem_of_getElem? hx)⟩
theorem TOwn.kept {B : Nat} {w w' : World} {v : Value} {ps : List (Value × Nd)} (h : TOwn B w v ps) (hg : w.grownBy w' none) : TOwn B w' v ps := by
 have kk : ∀ {e : TypeId} {sz n : Nat} {u : Value} {xs : List Value}, w.ownsRow B e sz u n xs → w'.ownsRow B e sz u n xs := fun {e sz n u xs} ho => ho.kept hg (by
  cases u.ownBlock with
  | none => exact .inl rfl
  | some k => exact .inr (by simp))
 exact ⟨kk h.row, fun i p hp => kk (h.edge i p hp), h.apart, h.apart2, h.small⟩
theorem grown_of_below {w w' : World} (h : Below w.heap.size w w') : w.grownBy w' none := ⟨h.os, h.tape, h.output, h.size, fun k hk _ => h.block k hk⟩
theorem TOwn.node {B : Nat} {w : World} {v : Value} {ps : List (Value × Nd)} (h : TOwn B w v ps) {i : Nat} {p : Value × Nd} (hp : ps[i]? = some p) :
 ∃ g cap A2 c2, v = .slice (some ⟨g, 0, none⟩) ps.length cap ∧ g < w.heap.size ∧ p.1 = .slice A2 p.2.es.length c2 ∧ w.cell? ⟨g, i * 2, none⟩ = some (.slice A2 p.2.es.length c2) ∧ w.cell? ⟨g, i * 2 + 1, none⟩ = some (.int .i64 p.2.word) ∧ w.frozen? ⟨g, i * 2, none⟩ = false ∧ w.frozen? ⟨g, i * 2 + 1, none⟩ = false := by
 have hi := (List.getElem?_eq_some_iff.1 hp).1
 obtain ⟨A, cap, rfl, hf⟩ := own_form h.row
 obtain ⟨g, rfl, hlt⟩ := hf (by omega)
 obtain ⟨A2, c2, he, _⟩ := own_form (h.edge i p hp)
 obtain ⟨k0, k1⟩ := pcs_get ps i p hp
 exact ⟨g, cap, A2, c2, rfl, hlt, he, by rw [← he]; exact own_cell h.row k0, own_cell h.row k1, own_free h.row _, own_free h.row _⟩
theorem TOwn.nodes {B : Nat} {w : World} {v : Value} {ps : List (Value × Nd)} (h : TOwn B w v ps) (hn : ps.length ≤ maxLen) (hm : ∀ (i : Nat) p, ps[i]? = some p → p.2.es.length ≤ maxLen) :
 ∃ A cap, v = .slice A ps.length cap ∧ NodesAt w w.heap.size A ps.length (ps.map (·.2)) := by
 obtain ⟨A, cap, rfl, hf⟩ := own_form h.row
 refine ⟨A, cap, rfl, by simp, hn, fun hp => ?_⟩
 obtain ⟨g, rfl, hlt⟩ := hf hp
 refine ⟨g, 0, rfl, hlt, fun i x hx => ?_⟩
 rw [List.getElem?_map] at hx
 cases hq : ps[i]? with
 | none => rw [hq] at hx; cases hx
 | some p =>
   rw [hq] at hx
   simp at hx
   subst hx
   obtain ⟨g', cap', A2, c2, e1, _, he, k0, k1, _, _⟩ := h.node hq
   injection e1 with e1 _ _
   injection e1 with e1
   injection e1 with e1 _ _
   subst e1
   have ho := h.edge i p hq
   rw [he] at ho
   exact ⟨A2, c2, by rw [Nat.zero_add]; exact k0, by rw [Nat.zero_add]; exact k1, edges_own ho (hm i p hq) (h.small i p hq)⟩
theorem TOwn.setWord {B : Nat} {w : World} {g cap : Nat} {ps : List (Value × Nd)} (h : TOwn B w (.slice (some ⟨g, 0, none⟩) ps.length cap) ps) {a : Nat} {p : Value × Nd} (hp : ps[a]? = some p) (k : Int) :
 TOwn B (w.setCell ⟨g, a * 2 + 1, none⟩ (.int .i64 k)) (.slice (some ⟨g, 0, none⟩) ps.length cap) (ps.set a (p.1, ⟨p.2.es, k⟩)) := by
 have ha := (List.getElem?_eq_some_iff.1 hp).1
 have hl : (ps.set a (p.1, (⟨p.2.es, k⟩ : Nd))).length = ps.length := List.length_set ..
 have hk : ∀ (i : Nat) q, (ps.set a (p.1, (⟨p.2.es, k⟩ : Nd)))[i]? = some q → ∃ q', ps[i]? = some q' ∧ q.1 = q'.1 ∧ q.2.es = q'.2.es := fun i q hq => by
  rcases set_get hq with ⟨rfl, rfl⟩ | ⟨_, hq⟩
  ·exact ⟨p, hp, rfl, rfl⟩
  ·exact ⟨q, hq, rfl, rfl⟩
 refine ⟨?_, fun i q hq => ?_, fun i q hq => ?_, fun i j q r hij hq hr => ?_, fun i q hq => ?_⟩
 ·rw [hl, ← pcs_set1 ps a p (p.1, ⟨p.2.es, k⟩) hp rfl]
  exact own_setCell h.row _ (by omega) _
 ·obtain ⟨q', h1, h2, h3⟩ := hk i q hq
  rw [h2, h3]
  exact ownsRow_setCell_other (h.edge i q' h1) (fun e => h.apart i q' h1 g rfl e) _
 ·obtain ⟨q', h1, h2, _⟩ := hk i q hq
  rw [h2]; exact h.apart i q' h1
 ·obtain ⟨q', h1, h2, _⟩ := hk i q hq
  obtain ⟨r', g1, g2, _⟩ := hk j r hr
  rw [h2, g2]; exact h.apart2 i j q' r' hij h1 g1
 ·obtain ⟨q', h1, _, h3⟩ := hk i q hq
  rw [h3]; exact h.small i q' h1
theorem TOwn.setEdges {B : Nat} {w w' : World} {g cap : Nat} {ps : List (Value × Nd)} (h : TOwn B w (.slice (some ⟨g, 0, none⟩) ps.length cap) ps) {a : Nat} {p : Value × Nd} (hp : ps[a]? = some p) (v' : Value) (ys : List Eg)
 (hown : w'.ownsRow B 72 2 v' ys.length (eds ys)) (hg : w.grownBy w' p.1.ownBlock) (hn : NearOr w p.1 v') (hs : ∀ e ∈ ys, e.c ≤ 255) :
 TOwn B (w'.setCell ⟨g, a * 2, none⟩ v') (.slice (some ⟨g, 0, none⟩) ps.length cap) (ps.set a (v', ⟨ys, p.2.word⟩)) := by
 have ha := (List.getElem?_eq_some_iff.1 hp).1
 have hl : (ps.set a (v', (⟨ys, p.2.word⟩ : Nd))).length = ps.length := List.length_set ..
 have hrow := own_apart h.row hg (h.apart a p hp).symm hn
 have hedge : ∀ (i : Nat) q, i ≠ a → ps[i]? = some q → w'.ownsRow B 72 2 q.1 q.2.es.length (eds q.2.es) ∧ Apart v' q.1 := fun i q hi hq => own_apart (h.edge i q hq) hg (h.apart2 a i p q (fun e => hi e.symm) hp hq) hn
 refine ⟨?_, fun i q hq => ?_, fun i q hq => ?_, fun i j q r hij hq hr => ?_, fun i q hq => ?_⟩
 ·rw [hl, ← pcs_set0 ps a p (v', ⟨ys, p.2.word⟩) hp rfl]
  exact own_setCell hrow.1 _ (by omega) _
 ·rcases set_get hq with ⟨rfl, rfl⟩ | ⟨hi, hq⟩
  ·exact ownsRow_setCell_other hown (fun e => hrow.2 g e rfl) _
  ·exact ownsRow_setCell_other (hedge i q hi hq).1 (fun e => h.apart i q hq g rfl e) _
 ·rcases set_get hq with ⟨rfl, rfl⟩ | ⟨hi, hq⟩
  ·exact hrow.2.symm
  ·exact h.apart i q hq
 ·rcases set_get hq with ⟨hi, rfl⟩ | ⟨hi, hq⟩ <;> rcases set_get hr with ⟨hj, rfl⟩ | ⟨hj, hr⟩
  ·omega
  ·exact (hedge j r hj hr).2
  ·exact (hedge i q hi hq).2.symm
  ·exact h.apart2 i j q r hij hq hr
 ·rcases set_get hq with ⟨rfl, rfl⟩ | ⟨hi, hq⟩
  ·exact hs
  ·exact h.small i q hq
theorem TOwn.push {B : Nat} {w w' : World} {v v' : Value} {ps : List (Value × Nd)} (h : TOwn B w v ps) (hown : w'.ownsRow B 70 2 v' (ps.length + 1) (pcs ps ++ [.slice none 0 0, .int .i64 (-1)])) (hg : w.grownBy w' v.ownBlock) (hn : NearOr w v v') :
 TOwn B w' v' (ps ++ [(.slice none 0 0, ⟨[], -1⟩)]) := by
 have hedge : ∀ (i : Nat) q, ps[i]? = some q → w'.ownsRow B 72 2 q.1 q.2.es.length (eds q.2.es) ∧ Apart v' q.1 := fun i q hq => own_apart (h.edge i q hq) hg (h.apart i q hq) hn
 refine ⟨?_, fun i q hq => ?_, fun i q hq => ?_, fun i j q r hij hq hr => ?_, fun i q hq => ?_⟩
 ·rw [List.length_append, pcs_app]; exact hown
 ·rcases get_snoc hq with hq | ⟨_, rfl⟩
  ·exact (hedge i q hq).1
  ·exact World.ownsRow_nil _ _ _ _
 ·rcases get_snoc hq with hq | ⟨_, rfl⟩
  ·exact (hedge i q hq).2
  ·exact (Apart.nil v').symm
 ·rcases get_snoc hq with hq | ⟨hi, rfl⟩ <;> rcases get_snoc hr with hr | ⟨hj, rfl⟩
  ·exact h.apart2 i j q r hij hq hr
  ·exact (Apart.nil q.1).symm
  ·exact Apart.nil r.1
  ·exact Apart.nil _
 ·rcases get_snoc hq with hq | ⟨_, rfl⟩
  ·exact h.small i q hq
  ·intro e he; cases he
theorem TOwn.start (w : World) (B : Nat) (hB : B ≤ w.heap.size) : TOwn B (w.alloc (.cells #[.slice none 0 0, .int .i64 (-1)] 70)) (.slice (some ⟨w.heap.size, 0, none⟩) 1 1) [(.slice none 0 0, ⟨[], -1⟩)] := by
 refine ⟨⟨rfl, .inr ⟨w.heap.size, 1, _, rfl, hB, World.alloc_heap_new w _, Nat.le_refl _, by unfold maxLen; omega, rfl, rfl⟩⟩, fun i q hq => ?_, fun i q hq => ?_, fun i j q r hij hq hr => ?_, fun i q hq => ?_⟩
 ·rcases get_snoc (l := []) hq with hq | ⟨_, rfl⟩
  ·simp at hq
  ·exact World.ownsRow_nil _ _ _ _
 ·rcases get_snoc (l := []) hq with hq | ⟨_, rfl⟩
  ·simp at hq
  ·exact (Apart.nil _).symm
 ·have := (List.getElem?_eq_some_iff.1 hq).1
  have := (List.getElem?_eq_some_iff.1 hr).1
  simp at *
  omega
 ·rcases get_snoc (l := []) hq with hq | ⟨_, rfl⟩
  ·simp at hq
  ·intro e he; cases he
end Go.Proofs.YtbbbeldbhlehnaaGreatDoor
end
section
set_option maxRecDepth 100000
namespace Gno
open Go Go.RowKit Go.Proofs.YtbbbeldbhlehnaaGreatDoor
def GoodT (t : List Nd) : Prop := ∀ (i : Nat) n, t[i]? = some n → Rise n.es ∧ ∀ e ∈ n.es, e.c ≤ 255 ∧ ∃ j : Nat, e.to = (j : Int) ∧ j < t.length
theorem good_root : GoodT root := fun i n hi => by
 have h := (List.getElem?_eq_some_iff.1 hi).1
 obtain rfl : i = 0 := by simp [root] at h; omega
 obtain rfl : (⟨[], -1⟩ : Nd) = n := by simpa [root] using hi
 exact ⟨List.Pairwise.nil, fun e he => by cases he⟩
theorem good_to {t : List Nd} (h : GoodT t) {a : Nat} {n : Nd} (hn : t[a]? = some n) (c : Nat) : (∃ j : Nat, edTo n.es c = (j : Int) ∧ j < t.length) ∨ (edTo n.es c = -1 ∧ ∀ e ∈ n.es, e.c ≠ c) := by
 obtain ⟨h1, h2⟩ := h a n hn
 rcases edTo_some (l := n.es) (c := c) with ⟨e, h3, h4, h5⟩ | ⟨h3, h4⟩
 ·obtain ⟨_, j, hj, hl⟩ := h2 e h3
  exact .inl ⟨j, h5.trans hj, hl⟩
 ·exact .inr ⟨h4, h3⟩
theorem good_mark {t : List Nd} (h : GoodT t) (a k : Nat) : GoodT (markT t a k) := by
 unfold markT
 split
 ·intro i n hi
  rw [List.length_set]
  rcases set_get hi with ⟨rfl, rfl⟩ | ⟨_, hi⟩
  ·have hl := (List.getElem?_eq_some_iff.1 hi).1
   rw [List.length_set] at hl
   rw [ndAt_of (List.getElem?_eq_getElem hl)]
   have := h i _ (List.getElem?_eq_getElem hl)
   exact this
  ·exact h i n hi
 ·exact h
theorem good_grow {t : List Nd} (h : GoodT t) {a : Nat} {n : Nd} (hn : t[a]? = some n) {c : Nat} (hc : c ≤ 255) (hno : ∀ e ∈ n.es, e.c ≠ c) : GoodT (t.set a ⟨insE n.es ⟨c, t.length⟩, n.word⟩ ++ [⟨[], -1⟩]) := by
 obtain ⟨h1, h2⟩ := h a n hn
 intro i m hi
 have hlen : (t.set a (⟨insE n.es ⟨c, t.length⟩, n.word⟩ : Nd) ++ [(⟨[], -1⟩ : Nd)]).length = t.length + 1 := by simp
 rw [hlen]
 rcases get_snoc hi with hi | ⟨_, rfl⟩
 ·rcases set_get hi with ⟨rfl, rfl⟩ | ⟨_, hi⟩
  ·refine ⟨insE_rise h1 hno, fun e he => ?_⟩
   rcases insE_mem.1 he with rfl | he
   ·exact ⟨hc, t.length, rfl, by omega⟩
   ·obtain ⟨g1, j, g2, g3⟩ := h2 e he
    exact ⟨g1, j, g2, by omega⟩
  ·obtain ⟨k1, k2⟩ := h i m hi
   refine ⟨k1, fun e he => ?_⟩
   obtain ⟨g1, j, g2, g3⟩ := k2 e he
   exact ⟨g1, j, g2, by omega⟩
 ·exact ⟨List.Pairwise.nil, fun e he => by cases he⟩
theorem rise_lo : ∀ {l : List Eg} {lo : Nat}, Rise l → (∀ e ∈ l, lo ≤ e.c ∧ e.c ≤ 255) → lo ≤ 256 → l.length + lo ≤ 256
 | [], lo, _, _, h => by simpa using h
 | x :: r, lo, hr, hb, h => by
   obtain ⟨ha, hb2⟩ := List.pairwise_cons.1 hr
   have hx := hb x List.mem_cons_self
   have := rise_lo (l := r) (lo := x.c + 1) hb2 (fun e he => ⟨ha e he, (hb e (List.mem_cons_of_mem _ he)).2⟩) (by omega)
   simp only [List.length_cons]
   omega
theorem good_len {t : List Nd} (h : GoodT t) {a : Nat} {n : Nd} (hn : t[a]? = some n) : n.es.length ≤ 256 := by
 obtain ⟨h1, h2⟩ := h a n hn
 have := rise_lo (lo := 0) h1 (fun e he => ⟨Nat.zero_le _, (h2 e he).1⟩) (by omega)
 omega
theorem step_yes {t : List Nd} {a : Nat} {n : Nd} (hn : t[a]? = some n) {c j : Nat} (h : edTo n.es c = (j : Int)) : stepT t a c = t ∧ stepA t a c = j := by
 unfold stepT stepA
 rw [ndAt_of hn, if_neg (by omega), if_neg (by omega)]
 exact ⟨rfl, by omega⟩
theorem step_no {t : List Nd} {a : Nat} {n : Nd} (hn : t[a]? = some n) {c : Nat} (h : edTo n.es c = -1) : stepT t a c = t.set a ⟨insE n.es ⟨c, t.length⟩, n.word⟩ ++ [⟨[], -1⟩] ∧ stepA t a c = t.length := by
 unfold stepT stepA
 rw [ndAt_of hn, if_pos (by omega), if_pos (by omega)]
 exact ⟨rfl, rfl⟩
theorem goB_at {t : List Nd} {a : Nat} {s : List Nat} {i c : Nat} (hc : s[i]? = some c) : goBT t a (s.drop i) = goBT (stepT t a c) (stepA t a c) (s.drop (i + 1)) ∧ goBA t a (s.drop i) = goBA (stepT t a c) (stepA t a c) (s.drop (i + 1)) := by
 rw [drop_at hc]; exact ⟨rfl, rfl⟩
theorem byte_le (s : ByteArray) (i : Nat) (h : i < s.size) : s[i].toNat ≤ 255 := by
 have := s[i].toNat_lt
 omega
def wordBad (s : ByteArray) : Bool := decide (s.size = 0) || decide (12 < s.size)
def wordsE (l : List ByteArray) : Int := if 40 < l.length then 2 else if l.any wordBad = true then 5 else 0
def bsL (l : List ByteArray) : List (List Nat) := l.map bs
theorem any_at {l : List ByteArray} {i : Nat} {b : ByteArray} (h : l[i]? = some b) : (l.drop i).any wordBad = (wordBad b || (l.drop (i + 1)).any wordBad) := by rw [drop_at h]; rfl
theorem any_end {l : List ByteArray} {i : Nat} (h : l.length ≤ i) : (l.drop i).any wordBad = false := by rw [List.drop_eq_nil_of_le h]; rfl
end Gno
namespace Go.Proofs.YtbbbeldbhlehnaaGreatDoor
open Go.RowKit Gno
set_option maxHeartbeats 4000000 in
theorem bad_any (s : ByteArray) (w : World) : Calls Tryz.prog 64 #[.string s] w fun e w' => e = .returned (.bool (wordBad s)) ∧ w = w' := by
 have hs : s.size = 0 ∨ ¬ s.size = 0 := Classical.em _
 rcases hs with hs | hs
 ·have HX : Hid (true = wordBad s) := Lib.hid (by unfold wordBad; rw [decide_eq_true hs]; rfl)
  have hz : s = ⟨#[]⟩ := by
   cases s with
   | mk d => simp [ByteArray.size] at hs; rw [hs]
  subst hz
  clear hs
  go_enter Tryz.func64, Tryz.ntmps64
  go_wp2
  go_ret
  exact ⟨by first | exact retO_b HX.out | rfl, rfl⟩
 ·have hz : s.toList.isEmpty = false := by
   rw [Lib.toList_data]
   cases h : s.data.toList with
   | nil => exact absurd (by rw [Lib.size_eq, h]; rfl) hs
   | cons a r => rfl
  have hz2 : ¬ s.toList = [] := fun e => by rw [e] at hz; cases hz
  by_cases h12 : 12 < s.size
  ·have HX : Hid (true = wordBad s) := Lib.hid (by unfold wordBad; rw [decide_eq_true h12, Bool.or_true])
   have hd : decide ((12 : Int) < (s.size : Int)) = true := decide_eq_true (by omega)
   clear hs
   go_enter Tryz.func64, Tryz.ntmps64
   go_wp2
   go_ret
   exact ⟨retO_b HX.out, rfl⟩
  ·have HX : Hid (false = wordBad s) := Lib.hid (by unfold wordBad; rw [decide_eq_false hs, decide_eq_false h12]; rfl)
   have hd : decide ((12 : Int) < (s.size : Int)) = false := decide_eq_false (by omega)
   clear hs
   go_enter Tryz.func64, Tryz.ntmps64
   go_wp2
   go_ret
   exact ⟨retO_b HX.out, rfl⟩
theorem strs_get {w : World} {B : Nat} {A : Option Addr} {n : Nat} {l : List ByteArray} (h : StrsAt w B A n l) {i : Nat} (hi : i < n) :
 ∃ b o s, A = some ⟨b, o, none⟩ ∧ b < B ∧ l[i]? = some s ∧ ∀ W, Below B w W → W.cell? ⟨b, o + i, none⟩ = some (.string s) := by
 obtain ⟨b, o, hA, hbB, hc⟩ := h.2.2 (by omega)
 have hl : i < l.length := by rw [h.1]; exact hi
 exact ⟨b, o, l[i], hA, hbB, List.getElem?_eq_getElem hl, fun W hW => (hW.cell hbB).trans (hc i _ (List.getElem?_eq_getElem hl))⟩
theorem fst_ge {α : Type} (p : α → Bool) : ∀ (l : List α) (k : Int), 0 ≤ k → (l.any p = decide (0 ≤ fst p l k))
 | [], k, h => rfl
 | b :: t, k, h => by
   unfold fst
   rw [List.any_cons]
   cases hb : p b
   ·rw [if_neg (by simp), Bool.false_or]; exact fst_ge p t (k + 1) (by omega)
   ·rw [if_pos rfl, decide_eq_true h]; rfl
set_option maxHeartbeats 4000000 in
theorem indexBad_any (A : Option Addr) (n cap : Nat) (l : List ByteArray) (w : World) (hT : StrsAt w w.heap.size A n l) :
 Calls Tryz.prog 141 #[.slice A n cap, .func (.func 64) #[] #[]] w fun e w' => e = .returned (.int .i64 (fst wordBad l 0)) ∧ w = w' := by
 have hn : n ≤ 9223372036854775807 := hT.2.1
 have HT := Lib.hid hT
 have C := Lib.hid (fun s w => bad_any s w)
 have eg : ∀ args w, (callFunc 64 args).run Tryz.prog w = .ok (.enter 64 args) w := fun _ _ => rfl
 clear hT
 go_enter Tryz.func141, Tryz.ntmps141
 go_wp2
 go_loop [8] (fun b0 => ∃ i : Nat, i ≤ n ∧ b0 = .int .i64 i ∧ Hid (fst wordBad (l.drop i) i = fst wordBad l 0)) (fun b0 => n - (intOf b0).toNat)
 case atStart => exact ⟨0, Nat.zero_le _, rfl, Lib.hid (by simp)⟩
 case round =>
  obtain ⟨i, hi, rfl, hfd⟩ := hrel
  by_cases hlt : i < n
  ·obtain ⟨b, o, q, hA, hbB, hq, hqq⟩ := strs_get HT.out hlt
   subst hA
   have e0 := hqq _ (Below.refl _ _)
   have FD := Lib.hid (fst_drop (p := wordBad) hq)
   have c := C.out q w
   clear hq hqq
   cases hpk : wordBad q
   ·rw [hpk] at c
    have D := Lib.hid c
    have HX := Lib.hid ((FD.out.2 hpk).symm.trans hfd.out)
    clear c hfd hpk
    go_wp2_with (go_at_fn 64; (with_reducible refine D.out.mono ?_); rintro e w4 ⟨rfl, rfl⟩)
    go_round
    case rel => exact ⟨i + 1, by omega, by go_num, HX⟩
    case measure => simp [intOf]; omega
   ·rw [hpk] at c
    have D := Lib.hid c
    have HX := Lib.hid ((FD.out.1 hpk).symm.trans hfd.out)
    clear c hfd hpk
    go_wp2_with (go_at_fn 64; (with_reducible refine D.out.mono ?_); rintro e w4 ⟨rfl, rfl⟩)
    go_ret
    exact ⟨retO_i HX.out, rfl⟩
  ·have HX := Lib.hid ((fst_end (p := wordBad) (by have := HT.out.1; omega)).symm.trans hfd.out)
   go_wp2
   go_ret
   exact ⟨retO_i HX.out, rfl⟩
set_option maxHeartbeats 4000000 in
theorem containsBad_any (A : Option Addr) (n cap : Nat) (l : List ByteArray) (w : World) (hT : StrsAt w w.heap.size A n l) :
 Calls Tryz.prog 63 #[.slice A n cap, .func (.func 64) #[] #[]] w fun e w' => e = .returned (.bool (l.any wordBad)) ∧ w = w' := by
 have C := Lib.hid (indexBad_any A n cap l w hT)
 obtain ⟨F, hF⟩ : ∃ F, F = fst wordBad l 0 := ⟨_, rfl⟩
 have HX : Hid (decide (0 ≤ F) = l.any wordBad) := Lib.hid (by rw [hF]; exact (fst_ge wordBad l 0 (by omega)).symm)
 rw [← hF] at C
 clear hF hT
 go_enter Tryz.func63, Tryz.ntmps63
 go_wp2_with (go_at_call 141; (with_reducible refine C.out.mono ?_); rintro e w4 ⟨rfl, rfl⟩)
 go_ret
 exact ⟨retO_b HX.out, rfl⟩
set_option maxHeartbeats 4000000 in
theorem buildE_any (A : Option Addr) (n cap : Nat) (l : List ByteArray) (w : World) (hT : StrsAt w w.heap.size A n l) (hs : ∀ s ∈ l, s.size ≤ 9223372036854775807) :
 Calls Tryz.prog 31 #[.slice A n cap] w fun e w' => e = .returned (.int .i64 (wordsE l)) ∧ w = w' := by
 have hn : n ≤ 9223372036854775807 := hT.2.1
 have HT := Lib.hid hT
 have HN : Hid (l.length = n) := Lib.hid hT.1
 have C := Lib.hid (fun k w => withinT_any k 1 12 w)
 clear hT hs
 by_cases h40 : 40 < n
 ·have HX : Hid (2 = wordsE l) := Lib.hid (by unfold wordsE; rw [if_pos (by rw [HN.out]; exact h40)])
  go_enter Tryz.func31, Tryz.ntmps31
  go_wp2
  go_ret
  exact ⟨retO_i HX.out, rfl⟩
 ·have HW : Hid (wordsE l = if l.any wordBad = true then 5 else 0) := Lib.hid (by unfold wordsE; rw [if_neg (by rw [HN.out]; exact h40)])
  have hd : decide ((40 : Int) < (n : Int)) = false := decide_eq_false (by omega)
  go_enter Tryz.func31, Tryz.ntmps31
  go_wp2
  go_loop [3] (fun s3 => ∃ i : Nat, i ≤ n ∧ s3 = .int .i64 i ∧ Hid ((l.drop i).any wordBad = l.any wordBad)) (fun s3 => n - (intOf s3).toNat)
  case atStart => exact ⟨0, Nat.zero_le _, rfl, Lib.hid (by rw [List.drop_zero])⟩
  case round =>
   obtain ⟨i, hi, rfl, hI⟩ := hrel
   by_cases hlt : i < n
   ·obtain ⟨b, o, q, hA, hbB, hq, hqq⟩ := strs_get HT.out hlt
    subst hA
    have e0 := hqq _ (Below.refl _ _)
    have HI := Lib.hid ((any_at hq).symm.trans hI.out)
    have c := C.out q.size w
    clear hq hqq hI
    by_cases hg : (1 : Int) ≤ (q.size : Int) ∧ (q.size : Int) ≤ 12
    ·rw [decide_eq_true hg] at c
     have D := Lib.hid c
     have HX : Hid ((l.drop (i + 1)).any wordBad = l.any wordBad) := Lib.hid (by rw [← HI.out]; unfold wordBad; rw [decide_eq_false (by omega), decide_eq_false (by omega)]; rfl)
     clear c HI hg
     go_wp2_with (go_at_call 45; (with_reducible refine D.out.mono ?_); rintro e w4 ⟨rfl, rfl⟩)
     go_round
     case rel => exact ⟨i + 1, by omega, by go_num, HX⟩
     case measure => simp [intOf]; omega
    ·rw [decide_eq_false hg] at c
     have D := Lib.hid c
     have HX : Hid (5 = wordsE l) := Lib.hid (by
      have hb : wordBad q = true := by
       unfold wordBad
       by_cases h0 : q.size = 0
       ·rw [decide_eq_true h0]; rfl
       ·rw [decide_eq_true (show 12 < q.size by omega), Bool.or_true]
      rw [HW.out, ← HI.out, hb]; rfl)
     clear c HI hg
     go_wp2_with (go_at_call 45; (with_reducible refine D.out.mono ?_); rintro e w4 ⟨rfl, rfl⟩)
     go_ret
     exact ⟨retO_i HX.out, rfl⟩
   ·have HX : Hid (0 = wordsE l) := Lib.hid (by rw [HW.out, ← hI.out, any_end (by rw [HN.out]; omega)]; rfl)
    clear hI
    go_wp2
    go_ret
    exact ⟨retO_i HX.out, rfl⟩
end Go.Proofs.YtbbbeldbhlehnaaGreatDoor
end
