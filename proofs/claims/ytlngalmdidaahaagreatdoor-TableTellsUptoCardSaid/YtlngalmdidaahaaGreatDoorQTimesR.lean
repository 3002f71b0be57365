/- gnomonref.times' closure: its copy, a place on. -/
import Derived.Laws.CopyRow
import Derived.Laws.CopyOwn
import Derived.Deep.RegionLaw
import Derived.Deep.RegionHeld3
import Derived.RangeFuncRecord
import Derived.Test.YtlngalmdidaahaaGreatDoorMUMostP0
import Derived.Test.YtlngalmdidaahaaGreatDoorMUMostP1
import Derived.Test.YtlngalmdidaahaaGreatDoorMUMostP2
import Derived.Test.YtlngalmdidaahaaGreatDoorMUMostP3
import Derived.Test.YtlngalmdidaahaaGreatDoorMUMostP4
import Derived.Test.YtlngalmdidaahaaGreatDoorMUMostP5
import Derived.Test.YtlngalmdidaahaaGreatDoorMUMostP6
import Derived.Test.YtlngalmdidaahaaGreatDoorMUMostP7
import Derived.Test.YtlngalmdidaahaaGreatDoorMUMostP8
import Derived.Test.YtlngalmdidaahaaGreatDoorMUMostP9
import Derived.Test.YtlngalmdidaahaaGreatDoorMUMostP10
import Derived.Test.YtlngalmdidaahaaGreatDoorMUMostP11
import Derived.Test.YtlngalmdidaahaaGreatDoorMUMostP12
import Derived.Test.YtlngalmdidaahaaGreatDoorMUMostP13
import Derived.Test.YtlngalmdidaahaaGreatDoorMUMostP14
import Derived.Test.YtlngalmdidaahaaGreatDoorMUMostP15
import Derived.Test.YtlngalmdidaahaaGreatDoorMUMostP16
import Derived.Test.YtlngalmdidaahaaGreatDoorMUMostP17
import Derived.Test.YtlngalmdidaahaaGreatDoorMUMostP18
import Derived.Test.YtlngalmdidaahaaGreatDoorMUMostP19
import Derived.Test.YtlngalmdidaahaaGreatDoorMUMostP20
import Derived.Test.YtlngalmdidaahaaGreatDoorMUMostP21
import Derived.Test.YtlngalmdidaahaaGreatDoorMUMostP22
import Derived.Test.YtlngalmdidaahaaGreatDoorMUMostP23
import Derived.Test.YtlngalmdidaahaaGreatDoorMUMostP24
import Derived.Test.YtlngalmdidaahaaGreatDoorMUMostP25
import Derived.Test.YtlngalmdidaahaaGreatDoorMUMostP26
import Derived.Test.YtlngalmdidaahaaGreatDoorMUMostP27
import Derived.Test.YtlngalmdidaahaaGreatDoorMUMostP28
import Derived.Test.YtlngalmdidaahaaGreatDoorMUMostP29
import Derived.Test.YtlngalmdidaahaaGreatDoorMUMostP30
import Derived.Test.YtlngalmdidaahaaGreatDoorMUMostP31
import Derived.Test.YtlngalmdidaahaaGreatDoorMUMostP32
import Derived.Test.YtlngalmdidaahaaGreatDoorMUMostP33
import Derived.Test.YtlngalmdidaahaaGreatDoorMUMostP34
import Derived.Test.YtlngalmdidaahaaGreatDoorMUMostP35
import Derived.Test.YtlngalmdidaahaaGreatDoorMUMostP36
import Derived.Test.YtlngalmdidaahaaGreatDoorMUMostP37
import Derived.Test.YtlngalmdidaahaaGreatDoorMUMostP38
import Derived.Test.YtlngalmdidaahaaGreatDoorMUMostP39
import Derived.Test.YtlngalmdidaahaaGreatDoorMUMostP40
import Derived.Test.YtlngalmdidaahaaGreatDoorMUMostP41
import Derived.Test.YtlngalmdidaahaaGreatDoorMUMostP42
import Derived.Test.YtlngalmdidaahaaGreatDoorMUMostP43
import Derived.Test.YtlngalmdidaahaaGreatDoorMUMostP44
import Derived.Test.YtlngalmdidaahaaGreatDoorMUMostP45
import Derived.Test.YtlngalmdidaahaaGreatDoorMUMostP46
set_option linter.unusedSimpArgs false
set_option linter.unusedVariables false
set_option linter.unusedVariables false
set_option linter.unusedSimpArgs false
namespace Gno
open Go
/-- the region of a number. -/
def findReg (k : Nat) : Code → Option Code
  | .region id ops b => if id = k then some (.region id ops b) else none
  | .loop c => findReg k c
  | .seq a b => match findReg k a with
    | some c => some c
    | none => findReg k b
  | .block _ c => findReg k c
  | .scope c => findReg k c
  | .cond _ a b => match findReg k a with
    | some c => some c
    | none => findReg k b
  | _ => none
theorem shift_list {α : Type} {cur xs : List α} {z t : α} {n k : Nat} (hk : k < n) (hl : xs.length = n) (ht : cur.take (n + 1) = xs ++ [z]) {c1 : List α} (h1 : c1 = cur.take (k + 1) ++ xs.drop k ++ cur.drop (n + 1)) :
    c1.length = cur.length ∧ (c1.set k t).take (n + 1) = xs.take k ++ t :: xs.drop k := by
  have hcl : n + 1 ≤ cur.length := by
    have := congrArg List.length ht
    rw [List.length_take, List.length_append, hl] at this
    simp at this; omega
  have e1 : cur.take (k + 1) = xs.take (k + 1) := by
    have : cur.take (k + 1) = (cur.take (n + 1)).take (k + 1) := by rw [List.take_take, Nat.min_eq_left (by omega)]
    rw [this, ht, List.take_append_of_le_length (by omega)]
  have hkx : k < xs.length := by omega
  have e2 : xs.take (k + 1) = xs.take k ++ [xs[k]] := List.take_succ_eq_append_getElem hkx
  have e3 : c1 = xs.take k ++ xs[k] :: (xs.drop k ++ cur.drop (n + 1)) := by rw [h1, e1, e2, List.append_assoc, List.append_assoc]; rfl
  have htk : (xs.take k).length = k := by rw [List.length_take]; omega
  constructor
  · rw [h1]; simp only [List.length_append, List.length_take, List.length_drop, hl]; omega
  · rw [e3, List.set_append_right _ _ (by omega), htk, Nat.sub_self, List.set_cons_zero]
    have e4 : xs.take k ++ t :: (xs.drop k ++ cur.drop (n + 1)) = (xs.take k ++ t :: xs.drop k) ++ cur.drop (n + 1) := by simp
    rw [e4, List.take_append_of_le_length (by simp [hl]; omega), List.take_of_length_le (by simp [hl]; omega)]
theorem shift_end {α : Type} {cur xs : List α} {z t : α} {n : Nat} (hl : xs.length = n) (ht : cur.take (n + 1) = xs ++ [z]) : (cur.set n t).take (n + 1) = xs.take n ++ t :: xs.drop n := by
  rw [List.take_set, ht, List.set_append_right _ _ (by omega), hl, Nat.sub_self, List.set_cons_zero, List.take_of_length_le (by omega), List.drop_eq_nil_of_le (by omega)]
end Gno
namespace Go.Proofs.YtlngalmdidaahaaGreatDoor
open Go.RowKit Gno
section
variable {P : Program}
theorem wp_copy_runI (w : World) {o : Oper} {a : Act} {K : Act → World → Prop} {Q : Exit → Act → World → Prop} (d s : Operand) (t t' : TypeId)
    (ho : o.op = .call { callee := .builtin .copy, args := #[d, s], argTypes := #[t, t'] }) (v u : Value) (hd : a.eval d = v) (hs : a.eval s = u) {v' : Value} {w' : World}
    (hr : (Builtin.copy_ #[t, t'] o.type #[v, u]).run P w = .ok v' w') (h : K (a.put o.dst v') w') : o.wp P a w K Q := by
  unfold Oper.wp execOp
  simp only [ho, resolve, invoke, builtin, Sem.run_bind, Sem.run_pure, Result.andThen_ok, List.map_toArray, List.map_cons, List.map_nil, hd, hs, hr]
  exact h
theorem step_copy_runI {ops : Array Oper} {o : Oper} {a : Act} {w : World} {K : Act → World → Prop} {Q : Exit → Act → World → Prop} {E : Prop}
    (hg : o.guard = none) (d x : Operand) (dT sT : TypeId) (hop : o.op = Op.call { callee := Callee.builtin Builtin.copy, args := #[d, x], argTypes := #[dT, sT] })
    (v u : Value) (hd : a.eval d = v) (hx : a.eval x = u) {v' : Value} {w' : World} (hr : (Builtin.copy_ #[dT, sT] o.type #[v, u]).run P w = .ok v' w') (hK : K (a.put o.dst v') w') :
    if Region.wanted o (yielded ops a.tmps) = true then Oper.wp P o a w K Q else E := by
  have hw : Region.wanted o (yielded ops a.tmps) = true := by simp [Region.wanted, hg]
  rw [if_pos hw]
  exact wp_copy_runI w d x dT sT hop v u hd hx hr hK
end
theorem sizeInt : (Tryz.prog.info? 3).map (·.size) = some 1 := by kernel_rfl
noncomputable def copyR : Code := ((Tryz.f74.body.bind (findReg 6)).getD .skip)
set_option maxRecDepth 100000 in
set_option maxHeartbeats 4000000 in
theorem copy_reg (B g n k cap : Nat) (cur : Array Value) (xs : List Value) (z tv : Value) (W : World) (Q : Exit → Act → World → Prop) (s0 s2 s4 s5 s6 s7 s8 s9 s10 s11 s12 s13 s14 s15 s16 s17 s18 s19 s20 s21 s22 s23 s24 s25 s26 s27 s28 s29 s30 s31 s32 s33 s34 s35 s36 s37 s38 s39 s40 s41 s42 s43 s44 s45 s46 s47 : Value)
    (hB : W.cell? ⟨B, 0, none⟩ = some (.slice (some ⟨g, 0, none⟩) (n + 1) cap)) (hg : W.heap[g]? = some (.cells cur 3 (0, 0))) (hcs : cur.size = cap) (hl : xs.length = n) (ht : cur.toList.take (n + 1) = xs ++ [z])
    (hk : k ≤ n) (hcap : n + 1 ≤ cap) (hc63 : cap ≤ 9223372036854775807) (h1 : ∀ u ∈ xs, u.oneCell' = true)
    (hQ : ∀ (q : Nat) (c2 : Array Value) (u36 u37 u38 u39 u40 u41 u42 u43 : Value), c2.size = cap → (c2.toList.set k tv).take (n + 1) = xs.take k ++ tv :: xs.drop k → Q .normal ⟨#[s0, .pointer (some ⟨B, 0, none⟩), s2, .int .i64 k, s4, s5, s6, s7, s8, s9, s10, s11, s12, s13, s14, s15, s16, s17, s18, s19, s20, s21, s22, s23, s24, s25, s26, s27, s28, s29, s30, s31, s32, s33, s34, s35, u36, u37, u38, u39, u40, u41, u42, u43, s44, s45, s46, s47], []⟩ ((W.drewN q).setRow g c2)) :
    copyR.wp Tryz.prog Q ⟨#[s0, .pointer (some ⟨B, 0, none⟩), s2, .int .i64 k, s4, s5, s6, s7, s8, s9, s10, s11, s12, s13, s14, s15, s16, s17, s18, s19, s20, s21, s22, s23, s24, s25, s26, s27, s28, s29, s30, s31, s32, s33, s34, s35, s36, s37, s38, s39, s40, s41, s42, s43, s44, s45, s46, s47], []⟩ W := by
  have hw1 : IntKind.i64.wrap ((k : Int) + 1) = (k : Int) + 1 := by rw [IntKind.wrap_i64]; omega
  have hp1 : (0 : Int) ≤ (k : Int) + 1 := by omega
  have hq1 : ((k : Int) + 1).toNat = k + 1 := by omega
  have hq2 : (k : Int) + 1 ≤ (n : Int) + 1 := by omega
  have hq3 : (k : Int) ≤ (n : Int) + 1 := by omega
  have hl1 : cur.toList.length = cap := by rw [Array.length_toList]; exact hcs
  rcases Nat.lt_or_ge k n with hkn | hkn
  · have hn1 : ¬ cap = k + 1 := by omega
    have hn2 : ¬ cap = k := by omega
    have hd : (xs.drop k).length = n - k := by rw [List.length_drop, hl]
    obtain ⟨c1, hc1⟩ : ∃ c1 : List Value, c1 = cur.toList.take (k + 1) ++ xs.drop k ++ cur.toList.drop (n + 1) := ⟨_, rfl⟩
    have hfin := shift_list (t := tv) hkn hl ht hc1
    have hrun : ∀ ty dc sc, (Builtin.copy_ #[71, 71] ty #[.slice (some ⟨g, k + 1, none⟩) (n - k) dc, .slice (some ⟨g, k, none⟩) (n + 1 - k) sc]).run Tryz.prog W.drew = .ok (goInt ((n - k : Nat) : Int)) (W.drew.setRow g c1.toArray) := fun ty dc sc => by
      have hmin : Nat.min (n + 1 - k) (n - k) = n - k := by simp only [Nat.min_def]; split <;> omega
      have h := run_copy_row (P := Tryz.prog) W.drew 71 71 ty 3 g (k + 1) (n - k) dc ⟨g, k, none⟩ (n + 1 - k) sc cur 3 (xs.drop k) Tryz.underlying71 sizeInt hg
        (by rw [hmin]; exact hd) (fun j u hj => by
          have hadd : (⟨g, k, none⟩ : Addr).add j = ⟨g, k + j, none⟩ := by unfold Addr.add; split <;> simp_all
          rw [hadd]
          have h3 : xs[k + j]? = some u := by rw [← List.getElem?_drop]; exact hj
          have h4 : (cur.toList.take (n + 1))[k + j]? = some u := by
            rw [ht, List.getElem?_append_left (List.getElem?_eq_some_iff.1 h3).1]; exact h3
          rw [List.getElem?_take] at h4
          split at h4
          · show W.cell? _ = _
            simp only [World.cell?, hg]
            simpa using h4
          · cases h4) (by rw [hd, hcs]; omega) (fun u hu => h1 u (List.mem_of_mem_drop hu))
      rw [h, hc1, hd, show k + 1 + (n - k) = n + 1 by omega]
    have HQ := Lib.hid hQ
    have HF := Lib.hid hfin
    clear hQ hfin hc1 ht hl h1 hd hg
    conv => arg 2; whnf
    refine wp_region_noPanic ?_
    go_region_law (refine step_copy_runI rfl _ _ 71 71 rfl _ _ (by simp [Act.eval, Act.put]) (by simp [Act.eval, Act.put]) (hrun _ _ _) ?_)
    all_goals exact NoPanic.normal (HQ.out 1 c1.toArray _ _ _ _ _ _ _ _ (by rw [List.size_toArray, HF.out.1]; exact hl1) HF.out.2)
  · obtain rfl : k = n := by omega
    have hfin := shift_end (t := tv) hl ht
    have hW : W.drew = (W.drewN 1).setRow g cur := (setRow_self (W.drewN 1) g cur _ _ hg).symm
    have hrun : ∀ ty ad dc ad2 c2 sc, (Builtin.copy_ #[71, 71] ty #[.slice ad 0 dc, .slice ad2 c2 sc]).run Tryz.prog W.drew = .ok (goInt 0) W.drew := fun ty ad dc ad2 c2 sc => run_copy_none (P := Tryz.prog) W.drew 71 71 ty 3 ad ad2 0 dc c2 sc Tryz.underlying71 sizeInt (by simp [Nat.min_def])
    have HQ := Lib.hid hQ
    have HF := Lib.hid hfin
    have HW := Lib.hid hW
    clear hQ hfin ht hl h1 hg hW
    by_cases hce : cap = k + 1
    · subst hce
      conv => arg 2; whnf
      refine wp_region_noPanic ?_
      go_region_law (refine step_copy_runI rfl _ _ 71 71 rfl _ _ (by simp [Act.eval, Act.put]) (by simp [Act.eval, Act.put]) (hrun _ _ _ _ _ _) ?_)
      all_goals
        refine NoPanic.normal ?_
        rw [HW.out]
        exact HQ.out 1 cur _ _ _ _ _ _ _ _ hcs HF.out
    · have hn2 : ¬ cap = k := by omega
      conv => arg 2; whnf
      refine wp_region_noPanic ?_
      go_region_law (refine step_copy_runI rfl _ _ 71 71 rfl _ _ (by simp [Act.eval, Act.put]) (by simp [Act.eval, Act.put]) (hrun _ _ _ _ _ _) ?_)
      all_goals
        refine NoPanic.normal ?_
        rw [HW.out]
        exact HQ.out 1 cur _ _ _ _ _ _ _ _ hcs HF.out
end Go.Proofs.YtlngalmdidaahaaGreatDoor
