/- Tries: the walk of TrieOrder. -/
import Derived.Test.YtggepbkhhnhnkaaTrN2
import Derived.Test.YtggepbkhhnhnkaaChoose
import Derived.Deep.QuietTactic
import Derived.Deep.CutRange
set_option linter.unusedVariables false
set_option linter.unusedSimpArgs false
namespace Go.Proofs.Ytggepbkhhnhnkaa
open Go.RowKit Gno
theorem infoStrT : (Try.prog.info? 9).map (fun i => (i.zero, i.size, i.bytes)) = some (some (.string ⟨#[]⟩), 1, 16) := by kernel_rfl
/-- an own row of texts is a slice of texts. -/
theorem strs_own {w : World} {B n : Nat} {A : Option Addr} {cap : Nat} {l : List ByteArray} (h : w.ownsRow B 9 1 (.slice A n cap) n (l.map Value.string)) (hn : n ≤ maxLen) : StrsAt w w.heap.size A n l := by
  have hl : l.length = n := by have := h.1; simpa using this
  refine ⟨hl, hn, fun hp => ?_⟩
  obtain ⟨A', cap', e1, hf⟩ := own_form h
  injection e1 with e1 _ e3
  subst e1
  obtain ⟨g, rfl, hlt⟩ := hf hp
  exact ⟨g, 0, rfl, hlt, fun i s hi => by rw [Nat.zero_add]; exact own_cell h (by rw [List.getElem?_map, hi]; rfl)⟩
set_option maxHeartbeats 16000000 in
set_option maxRecDepth 100000 in
theorem trieOrder_right (A : Option Addr) (n cap : Nat) (l : List ByteArray) (s : ByteArray) (i j : Int) (hi : (Lit.int .i64 i).wf = true) (hj : (Lit.int .i64 j).wf = true) (w : World) (hT : StrsAt w w.heap.size A n l) (hE : wordsE l = 0) (hn0 : 0 < n) :
    Calls Try.prog 6 #[.slice A n cap, .string s, .int .i64 i, .int .i64 j] w fun e w' => e = .returned (.bool true) ∧ Below w.heap.size w w' := by
  have CB : Hid (Calls Try.prog 8 #[.slice A n cap] w (BuiltN w (buildL (bsL l)) fun v => .tuple #[v, .int .i64 0])) := Lib.hid (build_n A n cap l w hT hE)
  have TB := Lib.hid trieBegun_any
  have HT := Lib.hid hT
  have HE := Lib.hid hE
  have HN : Hid (l.length = n) := Lib.hid hT.1
  have hn40 : n ≤ 40 := hT.1 ▸ (words_ok hE).1
  have c1 := chooseN_bd i n (by omega)
  have c2 := chooseN_bd j n (by omega)
  obtain ⟨a, ha⟩ : ∃ a : Nat, chooseN i n = (a : Int) := ⟨(chooseN i n).toNat, by omega⟩
  obtain ⟨b, hb⟩ : ∃ b : Nat, chooseN j n = (b : Int) := ⟨(chooseN j n).toNat, by omega⟩
  have han : a < n := by omega
  have hbn : b < n := by omega
  have CI : Hid (∀ w, Calls Try.prog 19 #[.int .i64 i, .int .i64 n] w fun e w' => e = .returned (.int .i64 a) ∧ w = w') := Lib.hid fun w => by rw [← ha]; exact choose_any i n w hi (by omega) (by omega)
  have CJ : Hid (∀ w, Calls Try.prog 19 #[.int .i64 j, .int .i64 n] w fun e w' => e = .returned (.int .i64 b) ∧ w = w') := Lib.hid fun w => by rw [← hb]; exact choose_any j n w hj (by omega) (by omega)
  clear hT hE c1 c2 ha hb
  obtain ⟨p, o, qa, hA, hpB, hqa, hcA⟩ := strs_get HT.out han
  obtain ⟨_, _, qb, hA2, _, hqb, hcB⟩ := strs_get HT.out hbn
  subst hA
  injection hA2 with hA2
  injection hA2 with hA3 hA4
  subst hA3 hA4
  obtain ⟨m, hm⟩ : ∃ m, m = (l.set a qb).set b qa := ⟨_, rfl⟩
  have HM := Lib.hid hm
  have HSW : Hid (∀ x, x ∈ m ↔ x ∈ l) := Lib.hid (by rw [hm]; exact swap_mem hqa hqb)
  have HML : Hid (m.length = n) := Lib.hid (by rw [hm, List.length_set, List.length_set, HN.out])
  have HEM : Hid (wordsE m = 0) := Lib.hid (words_same (by rw [HML.out, HN.out]) HSW.out HE.out)
  clear hm
  have hnn : ((n : Int) == 0) = false := beq_eq_false_iff_ne.2 (by omega)
  go_enter Try.func6, Try.ntmps6
  go_wp2_with fail
  refine CB.out.mono ?_
  rintro e w1 ⟨A1, n1, cap1, rfl, hN1, hn1, h1⟩
  clear CB
  have HN1 := Lib.hid hN1
  clear hN1
  go_wp2_with fail
  refine (CI.out _).mono ?_
  rintro e w2 ⟨rfl, rfl⟩
  go_wp2_with fail
  refine (CJ.out _).mono ?_
  rintro e w2 ⟨rfl, rfl⟩
  have hz1 := h1.size
  have h1a : Below w.heap.size w (w1.alloc (.cells #[] 9)) := h1.alloc hz1 _
  have HC1 : Hid (∀ j u, (l.map Value.string)[j]? = some u → (w1.alloc (.cells #[] 9)).cell? ((⟨p, o, none⟩ : Addr).add j) = some u) := Lib.hid fun j u hj => by
    rw [List.getElem?_map] at hj
    cases hx : l[j]? with
    | none => rw [hx] at hj; cases hj
    | some x =>
      rw [hx] at hj
      injection hj with hj
      subst hj
      have hjl := (List.getElem?_eq_some_iff.1 hx).1
      obtain ⟨_, _, x2, hA2, _, hx2, hcx⟩ := strs_get HT.out (show j < n by rw [← HN.out]; exact hjl)
      injection hA2 with hA2
      injection hA2 with hA3 hA4
      subst hA3 hA4
      rw [hx] at hx2
      injection hx2 with hx2
      subst hx2
      rw [addLit]
      exact hcx _ h1a
  have HO1 : Hid ((w1.alloc (.cells #[] 9)).ownsRow w.heap.size 9 1 (.slice (some ⟨w1.heap.size, 0, none⟩) 0 0) 0 []) := Lib.hid ⟨rfl, .inr ⟨w1.heap.size, 0, _, rfl, hz1, World.alloc_heap_new w1 _, Nat.le_refl _, by unfold maxLen; omega, rfl, rfl⟩⟩
  go_upto_region 6 with (at_builtin; go_must (refine wpList_app2 rfl _ _ 22 rfl w.heap.size 9 (.string ⟨#[]⟩) 1 16 Try.underlying22 infoStrT rfl (by decide) _ 0 [] rfl HO1.out ⟨p, o, none⟩ n cap (l.map Value.string) rfl (by simp [HN.out]) HC1.out (by intro u hu; obtain ⟨x, _, rfl⟩ := List.mem_map.1 hu; rfl) (by unfold maxLen; omega) (by omega) (by simp; omega) ?_); intro v' w4 hown4 hg4 hn4)
  have hg5 : (w1.alloc (.cells #[] 9)).grownBy w4 (Value.slice (some ⟨w1.heap.size, 0, none⟩) 0 0).ownBlock := hg4
  clear hg4
  rw [Nat.zero_add, List.nil_append] at hown4
  obtain ⟨A4, cap4, rfl, hf4⟩ := own_form hown4
  obtain ⟨g, rfl, hgl⟩ := hf4 hn0
  have h4 : Below w.heap.size w w4 := h1a.grown hg5 (by simp; omega) (fun k hk => (HO1.out.lt k hk).1)
  have h41 : Below w1.heap.size w1 w4 := ((Below.refl w1.heap.size w1).alloc (Nat.le_refl _) (.cells #[] 9)).grown hg5 (by simp) (fun k hk => by simp [Value.ownBlock] at hk; omega)
  have hgB : w.heap.size ≤ g := (hown4.lt g rfl).1
  have hg1 : w1.heap.size ≤ g := by
    have hn5 : NearOr (w1.alloc (.cells #[] 9)) (Value.slice (some ⟨w1.heap.size, 0, none⟩) 0 0) (Value.slice (some ⟨g, 0, none⟩) n cap4) := hn4
    rcases hn5 with h | h
    · simp [Value.ownBlock] at h; omega
    · have := h g rfl
      simp at this; omega
  clear hn4
  have HW5 := Lib.hid (own_setCell hown4 a (by omega) (.string qb))
  have HW6 := Lib.hid (own_setCell HW5.out b (by omega) (.string qa))
  have e4 := hcB _ h4
  have h5 := h4.setCell (p := ⟨g, a, none⟩) hgB (.string qb)
  have e5 := hcA _ h5
  have k4 := own_cell hown4 (j := a) (u := .string qa) (by rw [List.getElem?_map, hqa]; rfl)
  have f4 := own_free hown4 a
  have f5 := own_free HW5.out b
  obtain ⟨u5, k5⟩ : ∃ u, (w4.setCell ⟨g, a, none⟩ (.string qb)).cell? ⟨g, b, none⟩ = some u := ⟨_, own_cell HW5.out (List.getElem?_eq_getElem (i := b) (by simp; rw [HN.out]; exact hbn))⟩
  clear hg5
  go_wp2_with fail
  obtain ⟨w6, hw6⟩ : ∃ w6, w6 = (w4.setCell ⟨g, a, none⟩ (.string qb)).setCell ⟨g, b, none⟩ (.string qa) := ⟨_, rfl⟩
  have h61 : Below w1.heap.size w1 w6 := by rw [hw6]; exact (h41.setCell (p := ⟨g, a, none⟩) hg1 _).setCell (p := ⟨g, b, none⟩) hg1 _
  have hs6 : StrsAt w6 w6.heap.size (some ⟨g, 0, none⟩) n m := by
    refine strs_own (B := w.heap.size) (cap := cap4) ?_ (by unfold maxLen; omega)
    rw [HM.out, hw6, List.map_set, List.map_set]
    exact HW6.out
  rw [← hw6]
  clear hw6 HW6 HW5 e4 h5 e5 k4 f4 f5 k5 hown4 h4 h41
  have CB2 := Lib.hid (build_n (some ⟨g, 0, none⟩) n cap4 m w6 hs6 HEM.out)
  clear hs6
  refine CB2.out.mono ?_
  rintro e w7 ⟨A2, n2, cap2, rfl, hN2, hn2, h7⟩
  clear CB2
  have h71 : Below w1.heap.size w1 w7 := h61.trans (h7.mono h61.size)
  have h70 : Below w.heap.size w w7 := h1.trans (h71.mono h1.size)
  obtain ⟨K1, hK1⟩ : ∃ K, K = ixF (bsL l) (bs s) := ⟨_, rfl⟩
  obtain ⟨K2, hK2⟩ : ∃ K, K = ixF (bsL m) (bs s) := ⟨_, rfl⟩
  obtain ⟨J1, hJ1⟩ : ∃ J, J = lgK (buildL (bsL l)) (bs s) s.size := ⟨_, rfl⟩
  obtain ⟨J2, hJ2⟩ : ∃ J, J = lgK (buildL (bsL m)) (bs s) s.size := ⟨_, rfl⟩
  obtain ⟨X, hX⟩ : ∃ X, X = lgN (buildL (bsL l)) (bs s) s.size := ⟨_, rfl⟩
  have F1 : Hid (∀ W, Below w7.heap.size w7 W → Calls Try.prog 15 #[.slice A1 n1 cap1, .string s] W fun e w' => e = .returned (.tuple #[.int .i64 K1, .int .i64 0]) ∧ Below W.heap.size W w') := Lib.hid fun W h => by
    rw [hK1]; exact findW_any HE.out A1 n1 cap1 s W ((HN1.out.next h71).next h)
  have F2 : Hid (∀ W, Below w7.heap.size w7 W → Calls Try.prog 15 #[.slice A2 n2 cap2, .string s] W fun e w' => e = .returned (.tuple #[.int .i64 K2, .int .i64 0]) ∧ Below W.heap.size W w') := Lib.hid fun W h => by
    rw [hK2]; exact findW_any HEM.out A2 n2 cap2 s W (hN2.next h)
  have G1 : Hid (∀ W, Below w7.heap.size w7 W → Calls Try.prog 16 #[.slice A1 n1 cap1, .string s] W fun e w' => e = .returned (.tuple #[.int .i64 J1, .int .i64 X, .int .i64 0]) ∧ Below W.heap.size W w') := Lib.hid fun W h => by
    rw [hJ1, hX]; exact longW_any HE.out A1 n1 cap1 s W ((HN1.out.next h71).next h)
  have G2 : Hid (∀ W, Below w7.heap.size w7 W → Calls Try.prog 16 #[.slice A2 n2 cap2, .string s] W fun e w' => e = .returned (.tuple #[.int .i64 J2, .int .i64 X, .int .i64 0]) ∧ Below W.heap.size W w') := Lib.hid fun W h => by
    rw [hJ2, hX, ← long_same HSW.out s]; exact longW_any HEM.out A2 n2 cap2 s W (hN2.next h)
  have hKK : (decide (0 ≤ K1) = true ∧ decide (0 ≤ K2) = true) ∨ (decide (0 ≤ K1) = false ∧ decide (0 ≤ K2) = false) := by
    have := found_same HSW.out s
    rw [← hK1, ← hK2] at this
    rw [this]
    cases decide (0 ≤ K1)
    · exact .inr ⟨rfl, rfl⟩
    · exact .inl ⟨rfl, rfl⟩
  obtain rfl : n2 = n1 := by rw [← hN2.1, ← HN1.out.1]; exact len_same HSW.out
  clear hK1 hK2 hJ1 hJ2 hX hN2
  go_wp2_with fail
  refine (F1.out _ (Below.refl _ _)).mono ?_
  rintro e w8 ⟨rfl, h8⟩
  go_wp2_with fail
  refine (F2.out _ h8).mono ?_
  rintro e w9 ⟨rfl, h9⟩
  replace h9 := h8.trans (h9.mono h8.size)
  clear h8
  go_wp2_with fail
  refine (G1.out _ h9).mono ?_
  rintro e wa ⟨rfl, ha⟩
  replace ha := h9.trans (ha.mono h9.size)
  clear h9
  go_wp2_with fail
  refine (G2.out _ ha).mono ?_
  rintro e wb ⟨rfl, hb⟩
  replace hb := ha.trans (hb.mono ha.size)
  clear ha
  go_wp2_with fail
  refine (TB.out _).mono ?_
  rintro e wc ⟨rfl, hc⟩
  replace hc := hb.trans (hc.mono hb.size)
  clear hb
  rcases hKK with ⟨j1, j2⟩ | ⟨j1, j2⟩
  all_goals
    go_wp2
    go_ret
    exact ⟨rfl, h70.trans (hc.mono h70.size)⟩
end Go.Proofs.Ytggepbkhhnhnkaa
