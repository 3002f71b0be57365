/- The reference's reader, walked. -/
import Derived.BigQuiet
import Derived.Deep.CutRange
import Derived.Test.YthhjgndaiimgjaaGreatDoorQSgR9
import Derived.Test.YthhjgndaiimgjaaGreatDoorQSgR11
import Derived.Test.YthhjgndaiimgjaaGreatDoorQSgR16
import Derived.Test.YthhjgndaiimgjaaGreatDoorQSgR18
import Derived.Test.YthhjgndaiimgjaaGreatDoorQSgR20
import Derived.Test.YthhjgndaiimgjaaGreatDoorQSgR23
import Derived.Test.YthhjgndaiimgjaaGreatDoorQSgR25
import Derived.Test.YthhjgndaiimgjaaGreatDoorMUSrcB25
import Derived.Test.YthhjgndaiimgjaaGreatDoorMUSrcB23
set_option linter.unusedSimpArgs false
set_option linter.unusedVariables false
set_option linter.unusedVariables false
set_option linter.unusedSimpArgs false
set_option maxRecDepth 100000
namespace Gno
open Go Go.RowKit Go.Proofs.YthhjgndaiimgjaaGreatDoor
def dataV0' : Value := .agg #[.slice none 0 0, .slice none 0 0, .slice none 0 0]
/-- what the reference's reader answers. -/
noncomputable def FromE (s : ByteArray) (e : Ending) (w' : World) : Prop := match readC s.data.toList with
    | some c => ∃ d : Dt, e = .returned (.tuple #[d.val, .bool true]) ∧ DataAt w' w'.heap.size d ∧ cnOf d = c ∧ Cons d
    | none => e = .returned (.tuple #[dataV0', .bool false])
theorem from_done {s : Bt} {d : Dt} (hc : cnOf d = readR sdI ⟨[], [], []⟩ (linesR s)) (hd : Cons d) :
    (dataE d = 0 → showC Lib.itoa (cnOf d) = s → readC s = some (cnOf d)) ∧ ((dataE d ≠ 0 ∨ showC Lib.itoa (cnOf d) ≠ s) → readC s = none) := by
  rw [readC_ref]
  unfold ansR
  rw [← hc]
  have := okC_of hd
  refine ⟨fun h1 h2 => if_pos ⟨this.2 h1, h2⟩, fun h => if_neg fun q => ?_⟩
  rcases h with h | h
  · exact h (this.1 q.1)
  · exact h q.2
theorem fromE_none {s : ByteArray} {w' : World} (hn : readC s.data.toList = none) : FromE s (.returned (.tuple #[.agg #[.slice none 0 0, .slice none 0 0, .slice none 0 0], .bool false])) w' := by
  unfold FromE
  rw [hn]
  rfl
theorem fromE_some {s : ByteArray} {w' : World} {d : Dt} (hn : readC s.data.toList = some (cnOf d)) (hD : DataAt w' w'.heap.size d) (hc : Cons d) : FromE s (.returned (.tuple #[.agg #[.slice d.sA d.sn d.sc, .slice d.zA d.zn d.zc, .slice d.lA d.ln d.lc], .bool true])) w' := by
  unfold FromE
  rw [hn]
  exact ⟨d, rfl, hD, rfl, hc⟩
/-- the words' cells. -/
def WCells (w : World) (g : Nat) (a0 a1 a2 a3 a4 a5 a6 a7 a8 a9 : ByteArray) : Prop :=
  w.cell? ⟨g, 0, none⟩ = some (.string a0) ∧ w.cell? ⟨g, 1, none⟩ = some (.string a1) ∧ w.cell? ⟨g, 2, none⟩ = some (.string a2) ∧ w.cell? ⟨g, 3, none⟩ = some (.string a3) ∧ w.cell? ⟨g, 4, none⟩ = some (.string a4) ∧
  w.cell? ⟨g, 5, none⟩ = some (.string a5) ∧ w.cell? ⟨g, 6, none⟩ = some (.string a6) ∧ w.cell? ⟨g, 7, none⟩ = some (.string a7) ∧ w.cell? ⟨g, 8, none⟩ = some (.string a8) ∧ w.cell? ⟨g, 9, none⟩ = some (.string a9)
end Gno
namespace Go.Proofs.YthhjgndaiimgjaaGreatDoor
open Go.RowKit Gno
attribute [local go_sem] Oper.semAt_some
theorem resF_at {tmps : Array Value} {B : Nat} {b : Bool} {x y z : Value} {W : World} (ht : tmps[2]? = some (.pointer (some ⟨B, 0, none⟩))) (ht3 : tmps[3]? = some (.bool b)) (hX : W.heap[B]? = some (.cells #[x, y, z] 26)) :
    (results Tryz.f11 tmps).run Tryz.prog W = .ok (.tuple #[.agg #[x, y, z], .bool b]) W := by
  have c0 : W.cell? ⟨B, 0, none⟩ = some x := cell_of hX rfl
  have c1 : W.cell? ⟨B, 1, none⟩ = some y := cell_of hX rfl
  have c2 : W.cell? ⟨B, 2, none⟩ = some z := cell_of hX rfl
  simp [results, Tryz.results11, go_sem, ht, ht3, c0, c1, c2]
theorem data_set' {X : Nat} {a b c a' b' c' : Value} {w : World} (h : w.heap[X]? = some (.cells #[a, b, c] 26)) :
    (((w.setCell ⟨X, 0, none⟩ a').setCell ⟨X, 1, none⟩ b').setCell ⟨X, 2, none⟩ c').heap[X]? = some (.cells #[a', b', c'] 26) := by
  simp [World.setCell, Array.getElem?_modify, h]
set_option maxHeartbeats 16000000 in
theorem from_any (s : ByteArray) (w : World) (hs : s.size ≤ 4096) :
    Calls Tryz.prog 11 #[.string s] w fun e w' => Below w.heap.size w w' ∧ FromE s e w' := by
  have CS : Hid (∀ w, Calls Tryz.prog 32 #[.string s, .int .u8 10] w fun e w' => ∃ v, e = .returned v ∧ w'.ownsRow w.heap.size 9 1 v (splitB 10 s.data.toList).length (bsStrs (splitB 10 s.data.toList)) ∧ Below w.heap.size w w') := Lib.hid fun w => splitR_any s 10 w (by omega)
  have hlen : s.data.toList.length = s.size := Array.length_toList
  obtain ⟨hl1, hl2⟩ := splitB_len 10 s.data.toList
  have hl0 : 0 < (splitB 10 s.data.toList).length := List.length_pos_iff.2 (splitB_ne _ _)
  obtain ⟨L, hL⟩ : ∃ L, L = splitB 10 s.data.toList := ⟨_, rfl⟩
  have HLQ := Lib.hid hL
  have hlr : linesR s.data.toList = (L.take (L.length - 1)).map (splitB 32) := by rw [hL]; unfold linesR; rw [List.dropLast_eq_take]
  have HLR := Lib.hid hlr
  rw [← hL] at CS hl1 hl2 hl0
  have HL2 := Lib.hid hl2
  clear hL hlr hl2
  go_enter Tryz.func11, Tryz.ntmps11
  go_wp2_with (go_at_call 32; (with_reducible refine (CS.out _).mono ?_); rintro e w1 ⟨v, rfl, hrow, hb1⟩)
  have hL5 : L.length ≤ 5000 := by omega
  obtain ⟨B, hB⟩ : ∃ B, B = w.heap.size := ⟨_, rfl⟩
  obtain ⟨W0, hW0⟩ : ∃ W0, W0 = w.alloc (.cells #[.slice none 0 0, .slice none 0 0, .slice none 0 0] 26) := ⟨_, rfl⟩
  have hz0 : W0.heap.size = B + 1 := by rw [hW0, hB]; simp
  have hd0 : W0.heap[B]? = some (.cells #[.slice none 0 0, .slice none 0 0, .slice none 0 0] 26) := by rw [hW0, hB]; exact World.alloc_heap_new _ _
  have hbw : Below B w W0 := by rw [hW0, hB]; exact (Below.refl _ w).alloc (Nat.le_refl _) _
  rw [← hW0] at hrow hb1
  have hz1 := hb1.size
  obtain ⟨X, hX⟩ : ∃ X, X = w1.heap.size := ⟨_, rfl⟩
  obtain ⟨W1, hW1⟩ : ∃ W1, W1 = w1.alloc (.cells #[.slice none 0 0, .slice none 0 0, .slice none 0 0] 26) := ⟨_, rfl⟩
  have hb2 : Below w1.heap.size w1 W1 := by rw [hW1]; exact (Below.refl _ _).alloc (Nat.le_refl _) _
  have hxa : XAt X (.slice none 0 0) (.slice none 0 0) (.slice none 0 0) W1 := by unfold XAt; rw [hW1, hX]; exact World.alloc_heap_new _ _
  have hFI : FI B X v L ⟨[], [], []⟩ w W1 := ⟨hbw.trans ((hb1.mono (by omega)).trans (hb2.mono (by omega))), (hb2.block _ (by omega)).trans ((hb1.block _ (by omega)).trans hd0), ow_base (ow_keepT hrow (keepT_below hb2)) (by omega), ⟨_, _, _, _, _, hxa, DHold.start _ _⟩, by omega⟩
  obtain ⟨Av, capv, rfl, hAv⟩ := ow_form hrow
  obtain ⟨gl, rfl, _⟩ := hAv hl0
  have HF0 := Lib.hid hFI
  have HBQ := Lib.hid hB
  rw [← hB, ← hW1, ← hX]
  clear hFI hxa hb2 hW1 hX hz1 hbw hd0 hz0 hW0 hB hrow hb1 hAv CS
  go_loopw [6] (fun b6 wr => ∃ (i : Nat) (c : Cn), i + 1 ≤ L.length ∧ b6 = .int .i64 i ∧ Hid (c = readR sdI ⟨[], [], []⟩ ((L.take i).map (splitB 32))) ∧ Hid (CnZ i c) ∧ Hid (FI B X (.slice (some ⟨gl, 0, none⟩) L.length capv) L c w wr)) (fun b6 _ => L.length - (intOf b6).toNat)
  case atStart => exact ⟨0, _, by omega, rfl, Lib.hid rfl, Lib.hid CnZ.nil, HF0⟩
  case round =>
    clear HF0
    obtain ⟨i, c, hi, rfl, hc, hz, hf⟩ := hrel
    by_cases hlt : i + 1 < L.length
    · obtain ⟨li, hli⟩ : ∃ li, L[i]? = some li := ⟨_, List.getElem?_eq_getElem (by omega)⟩
      have hln : li.length ≤ 4096 := by have := HL2.out li (List.mem_of_getElem? hli); omega
      obtain ⟨hw1, hw2⟩ := splitB_len 32 li
      have hw0 := splitB_ne 32 li
      have C2 : Hid (∀ w, Calls Tryz.prog 32 #[.string (Bs li), .int .u8 32] w fun e w' => ∃ v, e = .returned v ∧ w'.ownsRow w.heap.size 9 1 v (splitB 32 li).length (bsStrs (splitB 32 li)) ∧ Below w.heap.size w w') := Lib.hid fun w => by
        have := splitR_any (Bs li) 32 w (by rw [Bs_size]; omega)
        rwa [list_Bs] at this
      obtain ⟨ws, hws⟩ : ∃ ws, ws = splitB 32 li := ⟨_, rfl⟩
      have hstep : readR sdI ⟨[], [], []⟩ ((L.take (i + 1)).map (splitB 32)) = stepR sdI c ws := by
        rw [List.take_add_one, hli, List.map_append, readR_app, ← hc.out, hws]
        rfl
      rw [← hws] at C2 hw1 hw2 hw0
      have hw5 : ∀ x ∈ ws, x.length ≤ 5000 := fun x hx => by have := hw2 x hx; omega
      have HZ' := Lib.hid (stepR_cnz hz.out hw5)
      have HST := Lib.hid hstep.symm
      have hcl : wr.cell? ⟨gl, i, none⟩ = some (.string (Bs li)) := ow_cell hf.out.row (by
        have : L.length > i := by omega
        simp [bsStrs, strs, hli])
      obtain ⟨nw, hnw⟩ : ∃ nw, nw = ws.length := ⟨_, rfl⟩
      have hnw0 : 0 < nw := by rw [hnw]; exact List.length_pos_iff.2 hw0
      have hnw1 : nw ≤ 4097 := by omega
      rw [← hnw] at C2
      obtain ⟨a0, ha0⟩ : ∃ a, a = Bs (ws.getD 0 []) := ⟨_, rfl⟩
      obtain ⟨a1, ha1⟩ : ∃ a, a = Bs (ws.getD 1 []) := ⟨_, rfl⟩
      obtain ⟨a2, ha2⟩ : ∃ a, a = Bs (ws.getD 2 []) := ⟨_, rfl⟩
      obtain ⟨a3, ha3⟩ : ∃ a, a = Bs (ws.getD 3 []) := ⟨_, rfl⟩
      obtain ⟨a4, ha4⟩ : ∃ a, a = Bs (ws.getD 4 []) := ⟨_, rfl⟩
      obtain ⟨a5, ha5⟩ : ∃ a, a = Bs (ws.getD 5 []) := ⟨_, rfl⟩
      obtain ⟨a6, ha6⟩ : ∃ a, a = Bs (ws.getD 6 []) := ⟨_, rfl⟩
      obtain ⟨a7, ha7⟩ : ∃ a, a = Bs (ws.getD 7 []) := ⟨_, rfl⟩
      obtain ⟨a8, ha8⟩ : ∃ a, a = Bs (ws.getD 8 []) := ⟨_, rfl⟩
      obtain ⟨a9, ha9⟩ : ∃ a, a = Bs (ws.getD 9 []) := ⟨_, rfl⟩
      have HWC : Hid (∀ w8 g n cap, World.ownsRow w8 wr.heap.size 9 1 (.slice (some ⟨g, 0, none⟩) n cap) n (bsStrs ws ++ tenB) → WCells w8 g a0 a1 a2 a3 a4 a5 a6 a7 a8 a9) := Lib.hid fun w8 g n cap h => by
        rw [ha0, ha1, ha2, ha3, ha4, ha5, ha6, ha7, ha8, ha9]
        exact ⟨word_cell h hw0 (by decide), word_cell h hw0 (by decide), word_cell h hw0 (by decide), word_cell h hw0 (by decide), word_cell h hw0 (by decide), word_cell h hw0 (by decide), word_cell h hw0 (by decide), word_cell h hw0 (by decide), word_cell h hw0 (by decide), word_cell h hw0 (by decide)⟩
      have HA : Hid (a0 = Bs (ws.getD 0 []) ∧ a1 = Bs (ws.getD 1 []) ∧ a2 = Bs (ws.getD 2 []) ∧ a3 = Bs (ws.getD 3 []) ∧ a4 = Bs (ws.getD 4 []) ∧ a5 = Bs (ws.getD 5 []) ∧ a6 = Bs (ws.getD 6 []) ∧ a7 = Bs (ws.getD 7 []) ∧ a8 = Bs (ws.getD 8 []) ∧ a9 = Bs (ws.getD 9 [])) := Lib.hid ⟨ha0, ha1, ha2, ha3, ha4, ha5, ha6, ha7, ha8, ha9⟩
      have HSM : Hid (∀ k, (ws.getD k []).length ≤ 4096) := Lib.hid fun k => getD_len fun x hx => by have := hw2 x hx; omega
      obtain ⟨lb, hlb⟩ : ∃ lb, lb = Bs li := ⟨_, rfl⟩
      rw [← hlb] at C2 hcl
      have hB0 := hf.out.size
      have hi0 : (0 : Int) ≤ (i : Int) := Int.natCast_nonneg _
      clear hstep hw5 hws hli hln hw1 hw2 hw0 hnw ha0 ha1 ha2 ha3 ha4 ha5 ha6 ha7 ha8 ha9 hlb HL2 HLR HLQ hlen hl1
      have HUB : Hid (∀ (v : Value) (w6 : World), w6.ownsRow wr.heap.size 9 1 v nw (bsStrs ws) → True) := Lib.hid fun _ _ _ => trivial
      go_upto_region 8 with (first
        | (go_at_call 32; (with_reducible refine (C2.out _).mono ?_); rintro e w5 ⟨v5, rfl, hrow5, hb5⟩)
        | (at_builtin; go_must (refine wpList_ten hb5 hb5.size _ 9 rfl _ _ 63 rfl Tryz.underlying63 _ 16 infoStr rfl _ nw _ rfl hrow5 10 10 (by decide) rfl rfl (by intro u hu; simp at hu; subst hu; rfl) (by unfold maxLen; omega) (by omega) ?_); intro v8 w8 hown8 hb8 _; obtain ⟨gw, capw, rfl, hnn⟩ := words_form (ws := ws) hown8; clear hnn; obtain ⟨q0, q1, q2, q3, q4, q5, q6, q7, q8, q9⟩ := HWC.out w8 gw _ capw hown8))
      have HF8 := Lib.hid (hf.out.next hb8)
      have hB8 := HF8.out.size
      have HZ := Lib.hid hz.out
      have hi5 : i ≤ 5000 := by omega
      clear hown8 hb8 hrow5 hb5 C2 HWC hcl hf hz hc
      have g : ∀ l : Bt, (ws.getD 0 [] = l → (a0.toList == l) = true) ∧ (ws.getD 0 [] ≠ l → (a0.toList == l) = false) := fun l => by
        rw [HA.out.1, Lib.toList_data, list_Bs]
        exact ⟨fun h => beq_iff_eq.2 h, fun h => beq_eq_false_iff_ne.2 h⟩
      have HG := Lib.hid g
      clear g
      generalize hNN : nw + 10 = NN
      have j0 : (0 : Int) < (NN : Int) := by omega
      have j1 : (1 : Int) < (NN : Int) := by omega
      have j2 : (2 : Int) < (NN : Int) := by omega
      have j3 : (3 : Int) < (NN : Int) := by omega
      have j4 : (4 : Int) < (NN : Int) := by omega
      have j5 : (5 : Int) < (NN : Int) := by omega
      have j6 : (6 : Int) < (NN : Int) := by omega
      have j7 : (7 : Int) < (NN : Int) := by omega
      have j8 : (8 : Int) < (NN : Int) := by omega
      have j9 : (9 : Int) < (NN : Int) := by omega
      clear hNN hnw0 hnw1
      by_cases hset : ws.getD 0 [] = wSet
      · have gset : (a0.toList == ([115, 101, 116] : List UInt8)) = true := (HG.out _).1 hset
        have HQ : Hid (stepR sdI c ws = { c with ss := c.ss ++ [(ws.getD 1 [], [])] }) := Lib.hid (by unfold stepR; simp only [hset, if_true])
        clear hset
        go_upto_region 9 with fail
        refine reg9 HF8.out HZ.out hi5 (x1 := ws.getD 1 []) (by rw [← HA.out.2.1]; exact q1) j1 ?_
        intro y33 y34 y35 y36 y37 y38 y39 y40 y41 W8 hW8
        rw [← HQ.out] at hW8
        have hW := Lib.hid hW8
        clear hW8
        go_wp2_with fail
        go_roundw
        case rel => first | exact ⟨i + 1, stepR sdI c ws, by omega, by go_num, HST, HZ', Lib.hid hW.out⟩ | exact ⟨i + 1, stepR sdI c ws, by omega, by go_num, HST, HZ', hW⟩
        case measure => simp [intOf] <;> omega
      by_cases hrule : ws.getD 0 [] = wRule
      · have gset : (a0.toList == ([115, 101, 116] : List UInt8)) = false := (HG.out _).2 hset
        have grule : (a0.toList == ([114, 117, 108, 101] : List UInt8)) = true := (HG.out _).1 hrule
        have HQ : Hid (stepR sdI c ws = { c with ss := ontoLast c.ss ([sdI (ws.getD 1 []), sdI (ws.getD 2 []), sdI (ws.getD 3 []), sdI (ws.getD 4 []), sdI (ws.getD 5 []), sdI (ws.getD 6 []), sdI (ws.getD 7 []), sdI (ws.getD 8 [])], wLet (ws.getD 9 [])) }) := Lib.hid (by unfold stepR; simp only [hrule, if_neg (show ¬ wRule = wSet by decide), if_true])
        clear hset hrule
        obtain ⟨n1, hn1⟩ : ∃ n, n = sdI (ws.getD 1 []) := ⟨_, rfl⟩
        obtain ⟨n2, hn2⟩ : ∃ n, n = sdI (ws.getD 2 []) := ⟨_, rfl⟩
        obtain ⟨n3, hn3⟩ : ∃ n, n = sdI (ws.getD 3 []) := ⟨_, rfl⟩
        obtain ⟨n4, hn4⟩ : ∃ n, n = sdI (ws.getD 4 []) := ⟨_, rfl⟩
        obtain ⟨n5, hn5⟩ : ∃ n, n = sdI (ws.getD 5 []) := ⟨_, rfl⟩
        obtain ⟨n6, hn6⟩ : ∃ n, n = sdI (ws.getD 6 []) := ⟨_, rfl⟩
        obtain ⟨n7, hn7⟩ : ∃ n, n = sdI (ws.getD 7 []) := ⟨_, rfl⟩
        obtain ⟨n8, hn8⟩ : ∃ n, n = sdI (ws.getD 8 []) := ⟨_, rfl⟩
        rw [← hn1, ← hn2, ← hn3, ← hn4, ← hn5, ← hn6, ← hn7, ← hn8] at HQ
        go_upto_region 11 with fail
        refine reg11 (x1 := ws.getD 1 []) (x2 := ws.getD 2 []) (x3 := ws.getD 3 []) (x4 := ws.getD 4 []) (x5 := ws.getD 5 []) (x6 := ws.getD 6 []) (x7 := ws.getD 7 []) (x8 := ws.getD 8 []) (x9 := ws.getD 9 []) (by rw [← HA.out.2.1]; exact q1) (by rw [← HA.out.2.2.1]; exact q2) (by rw [← HA.out.2.2.2.1]; exact q3) (by rw [← HA.out.2.2.2.2.1]; exact q4) (by rw [← HA.out.2.2.2.2.2.1]; exact q5) (by rw [← HA.out.2.2.2.2.2.2.1]; exact q6) (by rw [← HA.out.2.2.2.2.2.2.2.1]; exact q7) (by rw [← HA.out.2.2.2.2.2.2.2.2.1]; exact q8) (by rw [← HA.out.2.2.2.2.2.2.2.2.2]; exact q9) (Nat.le_trans (HSM.out 1) (by decide)) (Nat.le_trans (HSM.out 2) (by decide)) (Nat.le_trans (HSM.out 3) (by decide)) (Nat.le_trans (HSM.out 4) (by decide)) (Nat.le_trans (HSM.out 5) (by decide)) (Nat.le_trans (HSM.out 6) (by decide)) (Nat.le_trans (HSM.out 7) (by decide)) (Nat.le_trans (HSM.out 8) (by decide)) j1 j2 j3 j4 j5 j6 j7 j8 j9 ?_
        intro y44 y45 y46 y47 y48 y49 y50 y51 y52 y53 y54 y55 y56 y57 y58 y59 y60 y61 y62 y63 y64 y65 y66 y67 y68 y69 y70 y71 y72 y73 y74 y75 y76 y77 y78 y79 y80
        rw [← hn1, ← hn2, ← hn3, ← hn4, ← hn5, ← hn6, ← hn7, ← hn8]
        rw [← HA.out.2.2.2.2.2.2.2.2.2]
        clear hn1 hn2 hn3 hn4 hn5 hn6 hn7 hn8
        obtain ⟨W9, hW9⟩ : ∃ W9, W9 = (w8.alloc (.cells #[.int .i64 n1, .int .i64 n2, .int .i64 n3, .int .i64 n4, .int .i64 n5, .int .i64 n6, .int .i64 n7, .int .i64 n8, .string a9] 53)).drew := ⟨_, rfl⟩
        have hba : Below w8.heap.size w8 W9 := by rw [hW9]; exact ((Below.refl _ _).alloc (Nat.le_refl _) _).trans (Below.refl _ _).drew
        have hR9 : W9.heap[w8.heap.size]? = some (.cells #[.int .i64 n1, .int .i64 n2, .int .i64 n3, .int .i64 n4, .int .i64 n5, .int .i64 n6, .int .i64 n7, .int .i64 n8, .string a9] 53) := by rw [hW9]; exact World.alloc_heap_new w8 _
        obtain ⟨R, hR⟩ : ∃ R, R = w8.heap.size := ⟨_, rfl⟩
        rw [← hW9, ← hR]
        rw [← hR] at hR9
        have HBA := Lib.hid hba
        have HR0 := Lib.hid hR
        clear hW9 hR hba q0 q1 q2 q3 q4 q5 q6 q7 q8 q9
        have c8 : W9.cell? ⟨R, 8, none⟩ = some (.string a9) := cell_of hR9 rfl
        have z8 : W9.frozen? ⟨R, 8, none⟩ = false := frozen_of hR9
        by_cases hda : ws.getD 9 [] = [45]
        · have gd : (a9.toList == ([45] : List UInt8)) = true := by rw [HA.out.2.2.2.2.2.2.2.2.2, Lib.toList_data, list_Bs]; exact beq_iff_eq.2 hda
          have hbe : (⟨#[]⟩ : ByteArray) = Bs (wLet (ws.getD 9 [])) := by rw [hda]; rfl
          have HBE := Lib.hid hbe
          clear hda hbe
          have hbV : Below w8.heap.size w8 (W9.setCell ⟨R, 8, none⟩ (.string ⟨#[]⟩)) := HBA.out.setCell (p := ⟨R, 8, none⟩) (by show w8.heap.size ≤ R; have := HR0.out; omega) _
          have HRV : Hid ((W9.setCell ⟨R, 8, none⟩ (.string ⟨#[]⟩)).heap[R]? = some (.cells #[.int .i64 n1, .int .i64 n2, .int .i64 n3, .int .i64 n4, .int .i64 n5, .int .i64 n6, .int .i64 n7, .int .i64 n8, .string ⟨#[]⟩] 53)) := Lib.hid (by simp [World.setCell, Array.getElem?_modify, hR9])
          have HFV := Lib.hid (HF8.out.next hbV)
          clear hbV hR9
          go_upto_region 14 with fail
          obtain ⟨V, hV⟩ : ∃ V, V = W9.setCell ⟨R, 8, none⟩ (.string ⟨#[]⟩) := ⟨_, rfl⟩
          rw [← hV] at HRV HFV ⊢
          clear hV c8 z8 HBA HR0
          obtain ⟨us, uz, ul, qs, qz, hxV, hdV⟩ := HFV.out.own
          obtain ⟨A, cap, hv, _⟩ := ow_form hdV.sets.row
          have hlq : qs.length = c.ss.length := by have := congrArg List.length hdV.setsC; simpa using this
          obtain ⟨LS, hLS⟩ : ∃ LS, LS = c.ss.length := ⟨_, rfl⟩
          have HLS := Lib.hid hLS
          rw [hlq, ← hLS] at hv
          subst hv
          unfold XAt at hxV
          have e0 : V.cell? ⟨X, 0, none⟩ = some (.slice A LS cap) := cell_of hxV rfl
          clear hxV hdV hlq hLS
          by_cases hemp : LS = 0
          · have HQ' : Hid (FI B X (.slice (some ⟨gl, 0, none⟩) L.length capv) L (stepR sdI c ws) w V) := Lib.hid (by
              rw [HQ.out]
              have hemp1 : c.ss = [] := List.length_eq_zero_iff.1 (HLS.out.symm.trans hemp)
              have hemp2 : { c with ss := ontoLast c.ss ([n1, n2, n3, n4, n5, n6, n7, n8], wLet (ws.getD 9 [])) } = c := by
                obtain ⟨cs1, cs2, cs3⟩ := c
                simp only at hemp1
                subst hemp1
                rfl
              rw [hemp2]
              exact HFV.out)
            subst hemp
            go_wp2_with fail
            go_roundw
            case rel => first | exact ⟨i + 1, stepR sdI c ws, by omega, by go_num, HST, HZ', Lib.hid HQ'.out⟩ | exact ⟨i + 1, stepR sdI c ws, by omega, by go_num, HST, HZ', HQ'⟩
            case measure => simp [intOf] <;> omega
          · have hne : c.ss ≠ [] := fun e => hemp (by rw [HLS.out, e]; rfl)
            have hLp : (0 : Int) < (LS : Int) := by omega
            have hLq : 0 < LS := by omega
            have HNE := Lib.hid hne
            clear hne hemp
            go_upto_region 16 with fail
            refine reg16 (y := wLet (ws.getD 9 [])) (HBE.out) HFV.out HZ.out hi5 HNE.out HLS.out HRV.out ?_
            intro y90 y91 y92 y93 y94 y95 y96 y97 y98 y99 y100 y101 y102 y103 y104 y105 W8 hW8
            rw [← HQ.out] at hW8
            have hW := Lib.hid hW8
            clear hW8
            go_wp2_with fail
            go_roundw
            case rel => first | exact ⟨i + 1, stepR sdI c ws, by omega, by go_num, HST, HZ', Lib.hid hW.out⟩ | exact ⟨i + 1, stepR sdI c ws, by omega, by go_num, HST, HZ', hW⟩
            case measure => simp [intOf] <;> omega
        · have gd : (a9.toList == ([45] : List UInt8)) = false := by rw [HA.out.2.2.2.2.2.2.2.2.2, Lib.toList_data, list_Bs]; exact beq_eq_false_iff_ne.2 hda
          have hbe : a9 = Bs (wLet (ws.getD 9 [])) := by unfold wLet; rw [if_neg hda]; exact HA.out.2.2.2.2.2.2.2.2.2
          have HBE := Lib.hid hbe
          clear hda hbe
          have HFV := Lib.hid (HF8.out.next HBA.out)
          have HRV := Lib.hid hR9
          clear hR9
          go_upto_region 14 with fail
          obtain ⟨V, hV⟩ : ∃ V, V = W9 := ⟨_, rfl⟩
          rw [← hV] at HRV HFV c8 z8 ⊢
          clear hV c8 z8 HBA HR0
          obtain ⟨us, uz, ul, qs, qz, hxV, hdV⟩ := HFV.out.own
          obtain ⟨A, cap, hv, _⟩ := ow_form hdV.sets.row
          have hlq : qs.length = c.ss.length := by have := congrArg List.length hdV.setsC; simpa using this
          obtain ⟨LS, hLS⟩ : ∃ LS, LS = c.ss.length := ⟨_, rfl⟩
          have HLS := Lib.hid hLS
          rw [hlq, ← hLS] at hv
          subst hv
          unfold XAt at hxV
          have e0 : V.cell? ⟨X, 0, none⟩ = some (.slice A LS cap) := cell_of hxV rfl
          clear hxV hdV hlq hLS
          by_cases hemp : LS = 0
          · have HQ' : Hid (FI B X (.slice (some ⟨gl, 0, none⟩) L.length capv) L (stepR sdI c ws) w V) := Lib.hid (by
              rw [HQ.out]
              have hemp1 : c.ss = [] := List.length_eq_zero_iff.1 (HLS.out.symm.trans hemp)
              have hemp2 : { c with ss := ontoLast c.ss ([n1, n2, n3, n4, n5, n6, n7, n8], wLet (ws.getD 9 [])) } = c := by
                obtain ⟨cs1, cs2, cs3⟩ := c
                simp only at hemp1
                subst hemp1
                rfl
              rw [hemp2]
              exact HFV.out)
            subst hemp
            go_wp2_with fail
            go_roundw
            case rel => first | exact ⟨i + 1, stepR sdI c ws, by omega, by go_num, HST, HZ', Lib.hid HQ'.out⟩ | exact ⟨i + 1, stepR sdI c ws, by omega, by go_num, HST, HZ', HQ'⟩
            case measure => simp [intOf] <;> omega
          · have hne : c.ss ≠ [] := fun e => hemp (by rw [HLS.out, e]; rfl)
            have hLp : (0 : Int) < (LS : Int) := by omega
            have hLq : 0 < LS := by omega
            have HNE := Lib.hid hne
            clear hne hemp
            go_upto_region 16 with fail
            refine reg16 (y := wLet (ws.getD 9 [])) (HBE.out) HFV.out HZ.out hi5 HNE.out HLS.out HRV.out ?_
            intro y90 y91 y92 y93 y94 y95 y96 y97 y98 y99 y100 y101 y102 y103 y104 y105 W8 hW8
            rw [← HQ.out] at hW8
            have hW := Lib.hid hW8
            clear hW8
            go_wp2_with fail
            go_roundw
            case rel => first | exact ⟨i + 1, stepR sdI c ws, by omega, by go_num, HST, HZ', Lib.hid hW.out⟩ | exact ⟨i + 1, stepR sdI c ws, by omega, by go_num, HST, HZ', hW⟩
            case measure => simp [intOf] <;> omega
      by_cases hzone : ws.getD 0 [] = wZone
      · have gset : (a0.toList == ([115, 101, 116] : List UInt8)) = false := (HG.out _).2 hset
        have grule : (a0.toList == ([114, 117, 108, 101] : List UInt8)) = false := (HG.out _).2 hrule
        have gzone : (a0.toList == ([122, 111, 110, 101] : List UInt8)) = true := (HG.out _).1 hzone
        have HQ : Hid (stepR sdI c ws = { c with zs := c.zs ++ [(ws.getD 1 [], [])] }) := Lib.hid (by unfold stepR; simp only [hzone, if_neg (show ¬ wZone = wSet by decide), if_neg (show ¬ wZone = wRule by decide), if_true])
        clear hset hrule hzone
        go_upto_region 18 with fail
        refine reg18 HF8.out HZ.out hi5 (x1 := ws.getD 1 []) (by rw [← HA.out.2.1]; exact q1) j1 ?_
        intro y108 y109 y110 y111 y112 y113 y114 y115 y116 W8 hW8
        rw [← HQ.out] at hW8
        have hW := Lib.hid hW8
        clear hW8
        go_wp2_with fail
        go_roundw
        case rel => first | exact ⟨i + 1, stepR sdI c ws, by omega, by go_num, HST, HZ', Lib.hid hW.out⟩ | exact ⟨i + 1, stepR sdI c ws, by omega, by go_num, HST, HZ', hW⟩
        case measure => simp [intOf] <;> omega
      by_cases hera : ws.getD 0 [] = wEra
      · have gset : (a0.toList == ([115, 101, 116] : List UInt8)) = false := (HG.out _).2 hset
        have grule : (a0.toList == ([114, 117, 108, 101] : List UInt8)) = false := (HG.out _).2 hrule
        have gzone : (a0.toList == ([122, 111, 110, 101] : List UInt8)) = false := (HG.out _).2 hzone
        have gera : (a0.toList == ([101, 114, 97] : List UInt8)) = true := (HG.out _).1 hera
        have HQ : Hid (stepR sdI c ws = { c with zs := ontoLast c.zs ([sdI (ws.getD 1 []), sdI (ws.getD 2 []), sdI (ws.getD 3 [])], ws.getD 4 [], sdI (ws.getD 5 [])) }) := Lib.hid (by unfold stepR; simp only [hera, if_neg (show ¬ wEra = wSet by decide), if_neg (show ¬ wEra = wRule by decide), if_neg (show ¬ wEra = wZone by decide), if_true])
        clear hset hrule hzone hera
        obtain ⟨n1, hn1⟩ : ∃ n, n = sdI (ws.getD 1 []) := ⟨_, rfl⟩
        obtain ⟨n2, hn2⟩ : ∃ n, n = sdI (ws.getD 2 []) := ⟨_, rfl⟩
        obtain ⟨n3, hn3⟩ : ∃ n, n = sdI (ws.getD 3 []) := ⟨_, rfl⟩
        obtain ⟨n5, hn5⟩ : ∃ n, n = sdI (ws.getD 5 []) := ⟨_, rfl⟩
        rw [← hn1, ← hn2, ← hn3, ← hn5] at HQ
        go_upto_region 20 with fail
        refine reg20 (x1 := ws.getD 1 []) (x2 := ws.getD 2 []) (x3 := ws.getD 3 []) (x4 := ws.getD 4 []) (x5 := ws.getD 5 []) (by rw [← HA.out.2.1]; exact q1) (by rw [← HA.out.2.2.1]; exact q2) (by rw [← HA.out.2.2.2.1]; exact q3) (by rw [← HA.out.2.2.2.2.1]; exact q4) (by rw [← HA.out.2.2.2.2.2.1]; exact q5) (Nat.le_trans (HSM.out 1) (by decide)) (Nat.le_trans (HSM.out 2) (by decide)) (Nat.le_trans (HSM.out 3) (by decide)) (Nat.le_trans (HSM.out 5) (by decide)) j1 j2 j3 j4 j5 ?_
        intro y119 y120 y121 y122 y123 y124 y125 y126 y127 y128 y129 y130 y131 y132 y133 y134 y135 y136 y137 y138
        rw [← hn1, ← hn2, ← hn3, ← hn5]
        rw [← HA.out.2.2.2.2.1]
        clear hn1 hn2 hn3 hn5
        obtain ⟨W9, hW9⟩ : ∃ W9, W9 = (w8.alloc (.cells #[.int .i64 n1, .int .i64 n2, .int .i64 n3, .string a4, .int .i64 n5] 59)).drew := ⟨_, rfl⟩
        have hba : Below w8.heap.size w8 W9 := by rw [hW9]; exact ((Below.refl _ _).alloc (Nat.le_refl _) _).trans (Below.refl _ _).drew
        have hR9 : W9.heap[w8.heap.size]? = some (.cells #[.int .i64 n1, .int .i64 n2, .int .i64 n3, .string a4, .int .i64 n5] 59) := by rw [hW9]; exact World.alloc_heap_new w8 _
        obtain ⟨R, hR⟩ : ∃ R, R = w8.heap.size := ⟨_, rfl⟩
        rw [← hW9, ← hR]
        rw [← hR] at hR9
        have HBA := Lib.hid hba
        have HR0 := Lib.hid hR
        clear hW9 hR hba q0 q1 q2 q3 q4 q5 q6 q7 q8 q9
        have HFV := Lib.hid (HF8.out.next HBA.out)
        obtain ⟨V, hV⟩ : ∃ V, V = W9 := ⟨_, rfl⟩
        rw [← hV] at hR9 HFV ⊢
        clear hV HBA HR0
        have HRV := Lib.hid hR9
        clear hR9
        obtain ⟨us, uz, ul, qs, qz, hxV, hdV⟩ := HFV.out.own
        obtain ⟨A, cap, hv, _⟩ := ow_form hdV.zones.row
        have hlq : qz.length = c.zs.length := by have := congrArg List.length hdV.zonesC; simpa using this
        obtain ⟨LS, hLS⟩ : ∃ LS, LS = c.zs.length := ⟨_, rfl⟩
        have HLS := Lib.hid hLS
        rw [hlq, ← hLS] at hv
        subst hv
        unfold XAt at hxV
        have e0 : V.cell? ⟨X, 1, none⟩ = some (.slice A LS cap) := cell_of hxV rfl
        clear hxV hdV hlq hLS
        by_cases hemp : LS = 0
        · have HQ' : Hid (FI B X (.slice (some ⟨gl, 0, none⟩) L.length capv) L (stepR sdI c ws) w V) := Lib.hid (by
            rw [HQ.out]
            have hemp1 : c.zs = [] := List.length_eq_zero_iff.1 (HLS.out.symm.trans hemp)
            have hemp2 : { c with zs := ontoLast c.zs ([n1, n2, n3], ws.getD 4 [], n5) } = c := by
              obtain ⟨cs1, cs2, cs3⟩ := c
              simp only at hemp1
              subst hemp1
              rfl
            rw [hemp2]
            exact HFV.out)
          subst hemp
          go_wp2_with fail
          go_roundw
          case rel => first | exact ⟨i + 1, stepR sdI c ws, by omega, by go_num, HST, HZ', Lib.hid HQ'.out⟩ | exact ⟨i + 1, stepR sdI c ws, by omega, by go_num, HST, HZ', HQ'⟩
          case measure => simp [intOf] <;> omega
        · have hne : c.zs ≠ [] := fun e => hemp (by rw [HLS.out, e]; rfl)
          have hLp : (0 : Int) < (LS : Int) := by omega
          have hLq : 0 < LS := by omega
          have HNE := Lib.hid hne
          clear hne hemp
          go_upto_region 23 with fail
          refine reg23 (y := ws.getD 4 []) (HA.out.2.2.2.2.1) HFV.out HZ.out hi5 HNE.out HLS.out HRV.out ?_
          intro y144 y145 y146 y147 y148 y149 y150 y151 y152 y153 y154 y155 y156 y157 y158 y159 W8 hW8
          rw [← HQ.out] at hW8
          have hW := Lib.hid hW8
          clear hW8
          go_wp2_with fail
          go_roundw
          case rel => first | exact ⟨i + 1, stepR sdI c ws, by omega, by go_num, HST, HZ', Lib.hid hW.out⟩ | exact ⟨i + 1, stepR sdI c ws, by omega, by go_num, HST, HZ', hW⟩
          case measure => simp [intOf] <;> omega
      by_cases hlink : ws.getD 0 [] = wLink
      · have gset : (a0.toList == ([115, 101, 116] : List UInt8)) = false := (HG.out _).2 hset
        have grule : (a0.toList == ([114, 117, 108, 101] : List UInt8)) = false := (HG.out _).2 hrule
        have gzone : (a0.toList == ([122, 111, 110, 101] : List UInt8)) = false := (HG.out _).2 hzone
        have gera : (a0.toList == ([101, 114, 97] : List UInt8)) = false := (HG.out _).2 hera
        have glink : (a0.toList == ([108, 105, 110, 107] : List UInt8)) = true := (HG.out _).1 hlink
        have HQ : Hid (stepR sdI c ws = { c with ls := c.ls ++ [(ws.getD 1 [], ws.getD 2 [])] }) := Lib.hid (by unfold stepR; simp only [hlink, if_neg (show ¬ wLink = wSet by decide), if_neg (show ¬ wLink = wRule by decide), if_neg (show ¬ wLink = wZone by decide), if_neg (show ¬ wLink = wEra by decide), if_true])
        clear hset hrule hzone hera hlink
        go_upto_region 25 with fail
        refine reg25 HF8.out HZ.out hi5 (x1 := ws.getD 1 []) (x2 := ws.getD 2 []) (by rw [← HA.out.2.1]; exact q1) j1 (by rw [← HA.out.2.2.1]; exact q2) j2 ?_
        intro y162 y163 y164 y165 y166 y167 y168 y169 y170 y171 y172 y173 W8 hW8
        rw [← HQ.out] at hW8
        have hW := Lib.hid hW8
        clear hW8
        go_wp2_with fail
        go_roundw
        case rel => first | exact ⟨i + 1, stepR sdI c ws, by omega, by go_num, HST, HZ', Lib.hid hW.out⟩ | exact ⟨i + 1, stepR sdI c ws, by omega, by go_num, HST, HZ', hW⟩
        case measure => simp [intOf] <;> omega
      have gset : (a0.toList == ([115, 101, 116] : List UInt8)) = false := (HG.out _).2 hset
      have grule : (a0.toList == ([114, 117, 108, 101] : List UInt8)) = false := (HG.out _).2 hrule
      have gzone : (a0.toList == ([122, 111, 110, 101] : List UInt8)) = false := (HG.out _).2 hzone
      have gera : (a0.toList == ([101, 114, 97] : List UInt8)) = false := (HG.out _).2 hera
      have glink : (a0.toList == ([108, 105, 110, 107] : List UInt8)) = false := (HG.out _).2 hlink
      have HQ : Hid (FI B X (.slice (some ⟨gl, 0, none⟩) L.length capv) L (stepR sdI c ws) w w8) := Lib.hid (by unfold stepR; simp only [hset, hrule, hzone, hera, hlink, if_false]; exact HF8.out)
      clear hset hrule hzone hera hlink
      go_wp2_with fail
      go_roundw
      case rel => exact ⟨i + 1, stepR sdI c ws, by omega, by go_num, HST, HZ', HQ⟩
      case measure => simp [intOf] <;> omega
    · have HQI : Hid (c = readR sdI ⟨[], [], []⟩ (linesR s.data.toList)) := Lib.hid (by rw [HLR.out, show L.length - 1 = i by omega]; exact hc.out)
      have HFI := Lib.hid hf.out
      obtain ⟨vs, vz, vl, ps, pz, hx, hd⟩ := hf.out.own
      obtain ⟨d, rfl, rfl, rfl, hDk, hcn, hcons⟩ := hd.dataK (hz.out.up (by omega))
      obtain ⟨hy, hn⟩ := from_done (s := s.data.toList) (hcn.trans HQI.out) hcons
      have HX := Lib.hid hx
      have HDK := Lib.hid hDk
      have HCO := Lib.hid hcons
      have hD0 := hDk wr (keepD_below (Below.refl _ _))
      have CC : Hid (Calls Tryz.prog 6 #[d.val] wr fun e w' => e = .returned (.int .i64 (dataE d)) ∧ Below wr.heap.size wr w') := Lib.hid (checkData_any d wr hD0)
      have CT : Hid (dataE d = 0 → ∀ W, Below wr.heap.size wr W → Calls Tryz.prog 7 #[d.val] W fun e w' => e = .returned (.string (Bs (showC Lib.itoa (cnOf d)))) ∧ Below W.heap.size W w') := Lib.hid fun h0 W hW => dataText_any d W (hDk W (keepD_below hW)) (showOk_of h0)
      obtain ⟨T, hT⟩ : ∃ T, T = Bs (showC Lib.itoa (cnOf d)) := ⟨_, rfl⟩
      obtain ⟨n, hnn⟩ : ∃ n, n = dataE d := ⟨_, rfl⟩
      have hyt : n = 0 → T = s → readC s.data.toList = some (cnOf d) := fun h0 h1 => hy (hnn.symm.trans h0) (by rw [← h1, hT, list_Bs])
      have hnt : n = 0 → T ≠ s → readC s.data.toList = none := fun h0 h1 => hn (.inr fun e => h1 (by rw [hT, e, Bs_list]))
      have hnz : n ≠ 0 → readC s.data.toList = none := fun h0 => hn (.inl fun e => h0 (hnn.trans e))
      have HYT := Lib.hid hyt
      have HNT := Lib.hid hnt
      have HNZ := Lib.hid hnz
      rw [← hnn] at CC CT
      rw [← hT] at CT
      unfold Dt.val at CC CT
      have hB0 := hf.out.size
      have hzero := hf.out.zero
      have HZE := Lib.hid hzero
      have hx0 := hx
      unfold XAt at hx0
      have d0 : wr.cell? ⟨X, 0, none⟩ = some (.slice d.sA d.sn d.sc) := cell_of hx0 rfl
      have d1 : wr.cell? ⟨X, 1, none⟩ = some (.slice d.zA d.zn d.zc) := cell_of hx0 rfl
      have d2 : wr.cell? ⟨X, 2, none⟩ = some (.slice d.lA d.ln d.lc) := cell_of hx0 rfl
      have hXl : X < wr.heap.size := (Array.getElem?_eq_some_iff.1 hx0).1
      -- what stands behind the calls
      have hout : ∀ W, Below wr.heap.size wr W → XAt X (.slice d.sA d.sn d.sc) (.slice d.zA d.zn d.zc) (.slice d.lA d.ln d.lc) W ∧ W.heap[B]? = some (.cells #[.slice none 0 0, .slice none 0 0, .slice none 0 0] 26) ∧ Below B w W := fun W hW => ⟨hx.below hW, (hW.block _ hB0).trans hzero, HFI.out.below.trans (hW.mono (Nat.le_of_lt hB0))⟩
      have HOUT := Lib.hid hout
      have hfin : ∀ W, Below wr.heap.size wr W → readC s.data.toList = none → ∀ tm : Array Value, tm[2]? = some (.pointer (some ⟨B, 0, none⟩)) → tm[3]? = some (.bool false) → ∃ v, (results Tryz.f11 tm).run Tryz.prog (((W.setCell ⟨B, 0, none⟩ (.slice none 0 0)).setCell ⟨B, 1, none⟩ (.slice none 0 0)).setCell ⟨B, 2, none⟩ (.slice none 0 0)) = .ok v (((W.setCell ⟨B, 0, none⟩ (.slice none 0 0)).setCell ⟨B, 1, none⟩ (.slice none 0 0)).setCell ⟨B, 2, none⟩ (.slice none 0 0)) ∧ Below w.heap.size w (((W.setCell ⟨B, 0, none⟩ (.slice none 0 0)).setCell ⟨B, 1, none⟩ (.slice none 0 0)).setCell ⟨B, 2, none⟩ (.slice none 0 0)) ∧ FromE s (.returned v) (((W.setCell ⟨B, 0, none⟩ (.slice none 0 0)).setCell ⟨B, 1, none⟩ (.slice none 0 0)).setCell ⟨B, 2, none⟩ (.slice none 0 0)) := fun W hW hno tm t2 t3 => by
        obtain ⟨_, k2, k3⟩ := hout W hW
        refine ⟨_, resF_at t2 t3 (data_set' k2), ?_, fromE_none hno⟩
        rw [← HBQ.out]
        exact ((k3.setCell (p := ⟨B, 0, none⟩) (Nat.le_refl _) _).setCell (p := ⟨B, 1, none⟩) (Nat.le_refl _) _).setCell (p := ⟨B, 2, none⟩) (Nat.le_refl _) _
      have HFIN := Lib.hid hfin
      have hyes : ∀ W, Below wr.heap.size wr W → readC s.data.toList = some (cnOf d) → ∀ tm : Array Value, tm[2]? = some (.pointer (some ⟨B, 0, none⟩)) → tm[3]? = some (.bool true) → ∃ v, (results Tryz.f11 tm).run Tryz.prog (((W.setCell ⟨B, 0, none⟩ (.slice d.sA d.sn d.sc)).setCell ⟨B, 1, none⟩ (.slice d.zA d.zn d.zc)).setCell ⟨B, 2, none⟩ (.slice d.lA d.ln d.lc)) = .ok v (((W.setCell ⟨B, 0, none⟩ (.slice d.sA d.sn d.sc)).setCell ⟨B, 1, none⟩ (.slice d.zA d.zn d.zc)).setCell ⟨B, 2, none⟩ (.slice d.lA d.ln d.lc)) ∧ Below w.heap.size w (((W.setCell ⟨B, 0, none⟩ (.slice d.sA d.sn d.sc)).setCell ⟨B, 1, none⟩ (.slice d.zA d.zn d.zc)).setCell ⟨B, 2, none⟩ (.slice d.lA d.ln d.lc)) ∧ FromE s (.returned v) (((W.setCell ⟨B, 0, none⟩ (.slice d.sA d.sn d.sc)).setCell ⟨B, 1, none⟩ (.slice d.zA d.zn d.zc)).setCell ⟨B, 2, none⟩ (.slice d.lA d.ln d.lc)) := fun W hW hno tm t2 t3 => by
        obtain ⟨k1, k2, k3⟩ := hout W hW
        have kd : KeepD wr (((W.setCell ⟨B, 0, none⟩ (.slice d.sA d.sn d.sc)).setCell ⟨B, 1, none⟩ (.slice d.zA d.zn d.zc)).setCell ⟨B, 2, none⟩ (.slice d.lA d.ln d.lc)) := by
          have q1 : XAt B (.slice none 0 0) (.slice none 0 0) (.slice none 0 0) W := k2
          have q2 : XAt B (.slice d.sA d.sn d.sc) (.slice none 0 0) (.slice none 0 0) (W.setCell ⟨B, 0, none⟩ (.slice d.sA d.sn d.sc)) := by unfold XAt; simp [World.setCell, Array.getElem?_modify, k2]
          have q3 : XAt B (.slice d.sA d.sn d.sc) (.slice d.zA d.zn d.zc) (.slice none 0 0) ((W.setCell ⟨B, 0, none⟩ (.slice d.sA d.sn d.sc)).setCell ⟨B, 1, none⟩ (.slice d.zA d.zn d.zc)) := by unfold XAt; simp [World.setCell, Array.getElem?_modify, k2]
          exact (((keepD_below hW).trans (keepD_x q1 0 _)).trans (keepD_x q2 1 _)).trans (keepD_x q3 2 _)
        refine ⟨_, resF_at t2 t3 (data_set' k2), ?_, fromE_some hno (HDK.out _ kd) HCO.out⟩
        rw [← HBQ.out]
        exact ((k3.setCell (p := ⟨B, 0, none⟩) (Nat.le_refl _) _).setCell (p := ⟨B, 1, none⟩) (Nat.le_refl _) _).setCell (p := ⟨B, 2, none⟩) (Nat.le_refl _) _
      have HYES := Lib.hid hyes
      clear hyes hfin hout hyt hnt hnz hy hn hT hnn hx hx0 hd hDk hcn hcons hD0 hc hz hf hzero HLQ HL2 HQI
      by_cases h0 : n = 0
      · subst h0
        have CT0 := Lib.hid (CT.out rfl)
        clear CT
        by_cases h1 : T = s
        · have HR := Lib.hid (HYT.out rfl h1)
          have g1 : (T.toList == s.toList) = true := by rw [h1]; exact beq_iff_eq.2 rfl
          clear h1
          go_upto_region 28 with (first
            | (go_at_call 6; (with_reducible refine CC.out.mono ?_); rintro e w5 ⟨rfl, hb5⟩; obtain ⟨k1, k2, k3⟩ := HOUT.out w5 hb5; have c0 : w5.cell? ⟨X, 0, none⟩ = some (.slice d.sA d.sn d.sc) := cell_of k1 rfl; have c1 : w5.cell? ⟨X, 1, none⟩ = some (.slice d.zA d.zn d.zc) := cell_of k1 rfl; have c2 : w5.cell? ⟨X, 2, none⟩ = some (.slice d.lA d.ln d.lc) := cell_of k1 rfl; clear k1 k2 k3)
            | (go_at_call 7; (with_reducible refine (CT0.out w5 hb5).mono ?_); rintro e w6 ⟨rfl, hb6⟩))
          have hb7 := hb5.trans (hb6.mono hb5.size)
          have HY7 := Lib.hid (HYES.out w6 hb7 HR.out)
          obtain ⟨k1, k2, k3⟩ := HOUT.out w6 hb7
          have m0 : w6.cell? ⟨X, 0, none⟩ = some (.slice d.sA d.sn d.sc) := cell_of k1 rfl
          have m1 : w6.cell? ⟨X, 1, none⟩ = some (.slice d.zA d.zn d.zc) := cell_of k1 rfl
          have m2 : w6.cell? ⟨X, 2, none⟩ = some (.slice d.lA d.ln d.lc) := cell_of k1 rfl
          have n0 : w6.cell? ⟨B, 0, none⟩ = some (.slice none 0 0) := cell_of k2 rfl
          have n1 : w6.cell? ⟨B, 1, none⟩ = some (.slice none 0 0) := cell_of k2 rfl
          have n2 : w6.cell? ⟨B, 2, none⟩ = some (.slice none 0 0) := cell_of k2 rfl
          have f0 : w6.frozen? ⟨B, 0, none⟩ = false := frozen_of k2
          have f1 : w6.frozen? ⟨B, 1, none⟩ = false := frozen_of k2
          have f2 : w6.frozen? ⟨B, 2, none⟩ = false := frozen_of k2
          clear k1 k2 k3 c0 c1 c2 d0 d1 d2 hb5 hb6 hb7
          go_wp2_with fail
          exact ⟨rfl, HY7.out _ rfl rfl⟩
        · have HR := Lib.hid (HNT.out rfl h1)
          have g1 : (T.toList == s.toList) = false := by
            rw [Lib.toList_data, Lib.toList_data]
            exact beq_eq_false_iff_ne.2 fun e => h1 (by rw [← Bs_list T, e, Bs_list])
          clear h1
          go_upto_region 27 with (first
            | (go_at_call 6; (with_reducible refine CC.out.mono ?_); rintro e w5 ⟨rfl, hb5⟩; obtain ⟨k1, k2, k3⟩ := HOUT.out w5 hb5; have c0 : w5.cell? ⟨X, 0, none⟩ = some (.slice d.sA d.sn d.sc) := cell_of k1 rfl; have c1 : w5.cell? ⟨X, 1, none⟩ = some (.slice d.zA d.zn d.zc) := cell_of k1 rfl; have c2 : w5.cell? ⟨X, 2, none⟩ = some (.slice d.lA d.ln d.lc) := cell_of k1 rfl; clear k1 k2 k3)
            | (go_at_call 7; (with_reducible refine (CT0.out w5 hb5).mono ?_); rintro e w6 ⟨rfl, hb6⟩))
          have hb7 := hb5.trans (hb6.mono hb5.size)
          have HY7 := Lib.hid (HFIN.out w6 hb7 HR.out)
          obtain ⟨k1, k2, k3⟩ := HOUT.out w6 hb7
          have n0 : w6.cell? ⟨B, 0, none⟩ = some (.slice none 0 0) := cell_of k2 rfl
          have n1 : w6.cell? ⟨B, 1, none⟩ = some (.slice none 0 0) := cell_of k2 rfl
          have n2 : w6.cell? ⟨B, 2, none⟩ = some (.slice none 0 0) := cell_of k2 rfl
          have f0 : w6.frozen? ⟨B, 0, none⟩ = false := frozen_of k2
          have f1 : w6.frozen? ⟨B, 1, none⟩ = false := frozen_of k2
          have f2 : w6.frozen? ⟨B, 2, none⟩ = false := frozen_of k2
          clear k1 k2 k3 c0 c1 c2 d0 d1 d2 hb5 hb6 hb7
          go_wp2_with fail
          exact ⟨rfl, HY7.out _ rfl rfl⟩
      · have HR := Lib.hid (HNZ.out h0)
        have g1 : decide (n = 0) = false := decide_eq_false h0
        go_upto_region 27 with (go_at_call 6; (with_reducible refine CC.out.mono ?_); rintro e w5 ⟨rfl, hb5⟩)
        have HY7 := Lib.hid (HFIN.out w5 hb5 HR.out)
        obtain ⟨k1, k2, k3⟩ := HOUT.out w5 hb5
        have n0 : w5.cell? ⟨B, 0, none⟩ = some (.slice none 0 0) := cell_of k2 rfl
        have n1 : w5.cell? ⟨B, 1, none⟩ = some (.slice none 0 0) := cell_of k2 rfl
        have n2 : w5.cell? ⟨B, 2, none⟩ = some (.slice none 0 0) := cell_of k2 rfl
        have f0 : w5.frozen? ⟨B, 0, none⟩ = false := frozen_of k2
        have f1 : w5.frozen? ⟨B, 1, none⟩ = false := frozen_of k2
        have f2 : w5.frozen? ⟨B, 2, none⟩ = false := frozen_of k2
        clear k1 k2 k3 d0 d1 d2 hb5
        go_wp2_with fail
        exact ⟨rfl, HY7.out _ rfl rfl⟩
end Go.Proofs.YthhjgndaiimgjaaGreatDoor
