/- The walk of RestWorlds. -/
import Derived.Test.YtbbbeldbhlehnaaGreatDoorQRwO
import Derived.Test.YtbbbeldbhlehnaaGreatDoorQRwE
import Derived.Test.YtbbbeldbhlehnaaGreatDoorMUTrB231
import Derived.Test.YtbbbeldbhlehnaaGreatDoorMUTrB235
import Derived.Test.YtbbbeldbhlehnaaGreatDoorMUTrB29
import Derived.Test.YtbbbeldbhlehnaaGreatDoorMUTrB223
set_option linter.unusedSimpArgs false
set_option linter.unusedVariables false
namespace Gno
open Go Go.RowKit Go.Proofs.YtbbbeldbhlehnaaGreatDoor
noncomputable def builtL (l : List ByteArray) : List Nd := if wordsE l = 0 then buildL (bsL l) else []
def spoilS : ByteArray := ⟨#[115, 112, 111, 105, 108, 116]⟩
theorem strs_setW (l : List ByteArray) (i : Nat) (s : ByteArray) : (strs l).set i (.string s) = strs (l.set i s) := by unfold strs; rw [List.map_set]
theorem town_nil (B : Nat) (w : World) : TOwn B w (.slice none 0 0) [] := ⟨World.ownsRow_nil _ _ _ _, fun i p h => by simp at h, fun i p h => by simp at h, fun i j p q _ h => by simp at h, fun i p h => by simp at h⟩
end Gno
namespace Go.Proofs.YtbbbeldbhlehnaaGreatDoor
open Go.RowKit Gno
theorem buildU_any (A : Option Addr) (n cap : Nat) (l : List ByteArray) (w : World) (hT : StrsAt w w.heap.size A n l) :
 Calls Tryz.prog 30 #[.slice A n cap] w fun e w' => ∃ A1 n1 c1 ps, e = .returned (.tuple #[.slice A1 n1 c1, .int .i64 (wordsE l)]) ∧ n1 = ps.length ∧ n1 ≤ 481 ∧ (∀ (i : Nat) p, ps[i]? = some p → p.2.es.length ≤ 481) ∧ TOwn w.heap.size w' (.slice A1 n1 c1) ps ∧ NodesAt w' w'.heap.size A1 n1 (builtL l) ∧ Below w.heap.size w w' := by
 unfold builtL
 by_cases hE : wordsE l = 0
 ·rw [if_pos hE, hE]
  refine (build_right A n cap l w hT hE).mono fun e w' h => ?_
  obtain ⟨v, ps, rfl, ho, hg, hR, hl, hb⟩ := h
  have hm : ∀ (i : Nat) p, ps[i]? = some p → p.2.es.length ≤ 481 := fun i p hp => by
   have := good_len hg (a := i) (n := p.2) (by rw [List.getElem?_map, hp]; rfl)
   have h9 : (ps.map (·.2)).length = ps.length := List.length_map ..
   omega
  obtain ⟨A1, cap1, rfl, hn⟩ := ho.nodes (by unfold maxLen; omega) (fun i p hp => by have := hm i p hp; unfold maxLen; omega)
  exact ⟨A1, ps.length, cap1, ps, rfl, rfl, hl, hm, ho, hR ▸ hn, hb⟩
 ·rw [if_neg hE]
  refine (build_bad A n cap l w hT hE).mono fun e w' h => ?_
  obtain ⟨rfl, rfl⟩ := h
  exact ⟨none, 0, 0, [], rfl, rfl, by omega, fun i p h => by simp at h, town_nil _ _, nodes_nil _, Below.refl _ _⟩
set_option maxRecDepth 100000 in
set_option maxHeartbeats 16000000 in
theorem restWorlds_bad (x : Wd) (loc : ByteArray) (t p : Int) (A : Option Addr) (n cap : Nat) (w : World) (hW : WdAt w x) (hM : MaxAt w w.heap.size) (hE : worldE x ≠ 0) :
 Calls Tryz.prog 10 #[x.val, .string loc, .int .i64 t, .int .i64 p, .slice A n cap] w fun e w' => e = .returned (.bool true) ∧ Below w.heap.size w w' := by
 have HX := Lib.hid (fun W (h : Below (w.heap.size + 1) (w.alloc (Wobj x)) W) => boxW hW h)
 have K1 := Lib.hid (fun W (h : Below (w.heap.size + 1) (w.alloc (Wobj x)) W) => worldR_any x W (HX.out W h).2.1)
 have BB := Lib.hid (fun W (h : Below (w.heap.size + 1) (w.alloc (Wobj x)) W) => backBegun_any W (hM.next (HX.out W h).1))
 have hbb : Below (w.heap.size + 1) (w.alloc (Wobj x)) (w.alloc (Wobj x)) := Below.refl _ _
 unfold WdCells at HX
 unfold Wd.val at *
 clear hW hM
 obtain ⟨E, hEE⟩ : ∃ E, E = worldE x := ⟨_, rfl⟩
 rw [← hEE] at K1 hE
 have g1 : (E != 0) = true := by simpa using hE
 clear hEE hE
 go_enter Tryz.func10, Tryz.ntmps10
 go_wp2_with fail
 refine (K1.out _ hbb).mono ?_
 rintro e w1 ⟨rfl, h1⟩
 have H1 := Lib.hid (boxW_more hbb h1)
 clear h1 hbb
 go_wp2_with fail
 refine (BB.out _ H1.out).mono ?_
 rintro e w2 ⟨rfl, h2⟩
 have HF := Lib.hid (HX.out _ (boxW_more H1.out h2)).1
 clear h2
 go_wp2
 go_ret
 exact ⟨rfl, HF.out⟩
theorem own_spoil {W : World} {B g n cap : Nat} {L : List ByteArray} (h : W.ownsRow B 9 1 (.slice (some ⟨g, 0, none⟩) n cap) n (strs L)) {i : Nat} (hi : i < n) (s : ByteArray) :
 (W.setCell ⟨g, i, none⟩ (.string s)).ownsRow B 9 1 (.slice (some ⟨g, 0, none⟩) n cap) n (strs (L.set i s)) := by
 rw [← strs_setW]
 exact own_setCell h i (by omega) _
theorem town_edge {B : Nat} {W : World} {g n c : Nat} {ps : List (Value × Nd)} (h : TOwn B W (.slice (some ⟨g, 0, none⟩) n c) ps) {a : Nat} {p : Value × Nd} (hp : ps[a]? = some p) {k : Nat} (hk : k < p.2.es.length) :
 ∃ g2 c2 x, p.1 = .slice (some ⟨g2, 0, none⟩) p.2.es.length c2 ∧ p.2.es[k]? = some x ∧ B ≤ g2 ∧ W.cell? ⟨g2, k * 2, none⟩ = some (.int .u8 x.c) ∧ W.cell? ⟨g2, k * 2 + 1, none⟩ = some (.int .i64 x.to) ∧ W.frozen? ⟨g2, k * 2, none⟩ = false ∧ W.frozen? ⟨g2, k * 2 + 1, none⟩ = false := by
 have ho := h.edge a p hp
 obtain ⟨A2, c2, he, hf⟩ := own_form ho
 obtain ⟨g2, rfl, _⟩ := hf (by omega)
 obtain ⟨x, hx⟩ : ∃ x, p.2.es[k]? = some x := ⟨_, List.getElem?_eq_getElem hk⟩
 rw [he] at ho
 obtain ⟨q0, q1⟩ := eds_get _ _ _ hx
 exact ⟨g2, c2, x, he, hx, (ho.lt g2 rfl).1, own_cell ho q0, own_cell ho q1, own_free ho _, own_free ho _⟩
set_option maxRecDepth 100000 in
set_option maxHeartbeats 16000000 in
theorem restWorlds_good (x : Wd) (loc : ByteArray) (t p : Int) (A : Option Addr) (n cap : Nat) (l : List ByteArray) (w : World) (hW : WdAt w x) (hM : MaxAt w w.heap.size) (hp : (Lit.int .i64 p).wf = true) (hT : StrsAt w w.heap.size A n l) (hs : ∀ s ∈ l, s.size ≤ 9223372036854775807) (hE : worldE x = 0) :
 Calls Tryz.prog 10 #[x.val, .string loc, .int .i64 t, .int .i64 p, .slice A n cap] w fun e w' => e = .returned (.bool true) ∧ Below w.heap.size w w' := by
 have HX := Lib.hid (fun W (h : Below (w.heap.size + 1) (w.alloc (Wobj x)) W) => boxW hW h)
 have K1 := Lib.hid (fun W (h : Below (w.heap.size + 1) (w.alloc (Wobj x)) W) => worldR_any x W (HX.out W h).2.1)
 have OD := Lib.hid (fun W (h : Below (w.heap.size + 1) (w.alloc (Wobj x)) W) => ownData_any x.d W (HX.out W h).2.1.1 (rightW_of hE).data)
 have WP := Lib.hid (fun W (h : Below (w.heap.size + 1) (w.alloc (Wobj x)) W) => wordsP_any x loc t p W (HX.out W h).2.1 (hM.next (HX.out W h).1) hp)
 have WR := Lib.hid (fun W (h : Below (w.heap.size + 1) (w.alloc (Wobj x)) W) => wordsR_any x loc t p W (HX.out W h).2.1 (hM.next (HX.out W h).1))
 have BU := Lib.hid (fun W (h : Below (w.heap.size + 1) (w.alloc (Wobj x)) W) => buildU_any A n cap l W (strs_nextB hT (HX.out W h).1))
 have BE := Lib.hid (fun W (h : Below (w.heap.size + 1) (w.alloc (Wobj x)) W) => buildE_any A n cap l W (strs_nextB hT (HX.out W h).1) hs)
 have BO := Lib.hid (fun W (h : Below (w.heap.size + 1) (w.alloc (Wobj x)) W) (hu : wordsE l = 0) => buildOf_n A n cap l W (strs_nextB hT (HX.out W h).1) hu)
 have BB := Lib.hid (fun W (h : Below (w.heap.size + 1) (w.alloc (Wobj x)) W) => backBegun_any W (hM.next (HX.out W h).1))
 have SD := Lib.hid (fun W d' (h : Below (w.heap.size + 1) (w.alloc (Wobj x)) W) (h2 : DataAt W W.heap.size d') (h3 : SameD x.d d') => sameData_any x.d d' W (HX.out W h).2.1.1 h2 h3)
 have ST := Lib.hid @sameTexts_any
 have hf1 := wdsL_few (loc := loc) (t := t) (p := p) hW.1.2.1.1
 have hbb : Below (w.heap.size + 1) (w.alloc (Wobj x)) (w.alloc (Wobj x)) := Below.refl _ _
 rw [hE] at K1
 obtain ⟨WL, hWL⟩ : ∃ v, v = wdsL x loc t p := ⟨_, rfl⟩
 obtain ⟨E, hEE⟩ : ∃ v, v = wdsE x loc t p := ⟨_, rfl⟩
 obtain ⟨U, hU⟩ : ∃ v, v = wordsE l := ⟨_, rfl⟩
 obtain ⟨R, hR⟩ : ∃ v, v = builtL l := ⟨_, rfl⟩
 have HR0 : Hid (U = 0 → buildL (bsL l) = R) := Lib.hid fun h => by rw [hR]; unfold builtL; rw [if_pos (by rw [← hU]; exact h)]
 rw [← hWL, ← hEE] at WP WR
 rw [← hWL] at hf1
 rw [← hU, ← hR] at BU
 rw [← hU] at BE BO
 have TR : Hid (∀ W A1 n1 c1 A3 n3 c3, NodesAt W W.heap.size A1 n1 R → NodesAt W W.heap.size A3 n3 R → Calls Tryz.prog 33 #[.slice A1 n1 c1, .slice A3 n3 c3] W fun e w' => e = .returned (.bool true) ∧ Below W.heap.size W w') := Lib.hid fun W A1 n1 c1 A3 n3 c3 h1 h3 => by
  have := sameT_any R R A1 A3 n1 c1 n3 c3 W h1 h3
  rwa [ndEq_self] at this
 unfold WdCells at HX
 unfold Dt.val at OD SD
 unfold Wd.val at *
 clear hW hM hp hT hs hE hWL hEE hU hR
 go_enter Tryz.func10, Tryz.ntmps10
 go_wp2_with fail
 refine (K1.out _ hbb).mono ?_
 rintro e w1 ⟨rfl, h1⟩
 have H1 := Lib.hid (boxW_more hbb h1)
 obtain ⟨_, _, c0, c1, c2, c3, c4⟩ := HX.out _ H1.out
 clear h1 hbb K1
 go_wp2_with fail
 refine (OD.out _ H1.out).mono ?_
 rintro e w2 ⟨d', rfl, hd', hsame, h2⟩
 have H2 := Lib.hid (boxW_more H1.out h2)
 have HD2 := Lib.hid hd'
 have HSM := Lib.hid hsame
 clear c0 c1 c2 c3 c4 h2 hd' hsame OD
 obtain ⟨_, _, c0, c1, c2, c3, c4⟩ := HX.out _ H2.out
 have BZ : Hid (Below w2.heap.size w2 (w2.alloc (.cells #[.slice d'.sA d'.sn d'.sc, .slice d'.zA d'.zn d'.zc, .slice d'.lA d'.ln d'.lc] 26))) := Lib.hid ((Below.refl w2.heap.size w2).alloc (Nat.le_refl _) _)
 have KZ : Hid ((w2.alloc (.cells #[.slice d'.sA d'.sn d'.sc, .slice d'.zA d'.zn d'.zc, .slice d'.lA d'.ln d'.lc] 26)).heap[w2.heap.size]? = some (.cells #[.slice d'.sA d'.sn d'.sc, .slice d'.zA d'.zn d'.zc, .slice d'.lA d'.ln d'.lc] 26)) := Lib.hid (World.alloc_heap_new w2 _)
 have KS : Hid ((w2.alloc (.cells #[.slice d'.sA d'.sn d'.sc, .slice d'.zA d'.zn d'.zc, .slice d'.lA d'.ln d'.lc] 26)).heap.size = w2.heap.size + 1) := Lib.hid (by simp)
 clear c0 c1 c2 c3 c4
 go_upto_region 4 with fail
 obtain ⟨Z, hZ⟩ : ∃ Z : World, Z = (w2.alloc (.cells #[.slice d'.sA d'.sn d'.sc, .slice d'.zA d'.zn d'.zc, .slice d'.lA d'.ln d'.lc] 26)) := ⟨_, rfl⟩
 rw [← hZ] at BZ KZ KS
 rw [← hZ]
 clear hZ
 have HZ : Hid (∀ W, Below Z.heap.size Z W → Below (w.heap.size + 1) (w.alloc (Wobj x)) W ∧ W.cell? ⟨w2.heap.size, 0, none⟩ = some (.slice d'.sA d'.sn d'.sc) ∧ W.cell? ⟨w2.heap.size, 1, none⟩ = some (.slice d'.zA d'.zn d'.zc) ∧ W.cell? ⟨w2.heap.size, 2, none⟩ = some (.slice d'.lA d'.ln d'.lc) ∧ DataAt W W.heap.size d') := Lib.hid fun W h => by
  have h1 : Below w2.heap.size w2 W := BZ.out.trans (h.mono BZ.out.size)
  have h2 := (h.block w2.heap.size (by rw [KS.out]; omega)).trans KZ.out
  exact ⟨boxW_more H2.out h1, cell_of h2 rfl, cell_of h2 rfl, cell_of h2 rfl, HD2.out.next h1⟩
 have G0 : Hid (Below Z.heap.size Z Z) := Lib.hid (Below.refl _ _)
 clear BZ KZ KS H1 H2 HD2
 obtain ⟨_, _, c0, c1, c2, c3, c4⟩ := HX.out _ (HZ.out _ G0.out).1
 go_wp2_with fail
 refine (WP.out _ (HZ.out _ G0.out).1).mono ?_
 rintro e w4 ⟨v4, rfl, ho4, h4⟩
 obtain ⟨A4, c4', rfl, hA4⟩ := own_formU ho4
 have HO4 := Lib.hid ho4
 have G4 := Lib.hid h4
 clear c0 c1 c2 c3 c4 ho4 h4 G0
 go_wp2_with fail
 go_loopw [14] (fun b wr => ∃ (i : Nat) (L : List ByteArray), i ≤ WL.length ∧ b = .int .i64 i ∧ Hid (wr.ownsRow (Z.heap.size + 1) 9 1 (.slice A4 WL.length c4') WL.length (strs L)) ∧ Hid (Below Z.heap.size Z wr)) (fun b _ => WL.length - (intOf b).toNat)
 case atStart => exact ⟨0, WL, Nat.zero_le _, rfl, HO4, G4⟩
 case round =>
  clear HO4 G4
  obtain ⟨i, L, hi, rfl, hO, hG⟩ := hrel
  by_cases hlt : i < WL.length
  ·obtain ⟨g, rfl⟩ := hA4 (by omega)
   have hLn : L.length = WL.length := by have := hO.out.1; unfold strs at this; simpa using this
   obtain ⟨y, hy⟩ : ∃ y, L[i]? = some y := ⟨_, List.getElem?_eq_getElem (by omega)⟩
   have e0 := own_cellU hO.out (strs_at hy)
   have z0 := own_freeU hO.out i
   have hgZ : Z.heap.size ≤ g := by have := (hO.out.lt g rfl).1; omega
   have HO' := Lib.hid (own_spoil hO.out hlt spoilS)
   have HG' : Hid (Below Z.heap.size Z (wr.setCell ⟨g, i, none⟩ (.string spoilS))) := Lib.hid (hG.out.setCell (p := ⟨g, i, none⟩) hgZ _)
   unfold spoilS at HO' HG'
   clear hO hG hy
   go_wp2_with fail
   go_roundw
   case rel => exact ⟨i + 1, _, by omega, by go_num, HO', HG'⟩
   case measure => simp [intOf]; omega
  ·have G5 := Lib.hid hG.out
   clear hO hG
   go_wp2_with fail
   refine (BU.out _ (HZ.out _ G5.out).1).mono ?_
   rintro e w5 ⟨A5, n5, c5, ps, rfl, hn5, hn5m, hpm, hT5, _, h5⟩
   have HT5 := Lib.hid hT5
   have HPM := Lib.hid hpm
   have G6 := Lib.hid (G5.out.trans (h5.mono G5.out.size))
   obtain ⟨B5, hB5⟩ : ∃ B5, B5 = wr.heap.size := ⟨_, rfl⟩
   rw [← hB5] at HT5
   have hBZ : Z.heap.size ≤ B5 := by rw [hB5]; exact G5.out.size
   clear hT5 hpm h5 hB5 G5
   go_wp2_with fail
   go_loopw [17] (fun b wr => ∃ (i : Nat) (qs : List (Value × Nd)), i ≤ n5 ∧ b = .int .i64 i ∧ n5 = qs.length ∧ Hid (∀ (j : Nat) q, qs[j]? = some q → q.2.es.length ≤ 481) ∧ Hid (TOwn B5 wr (.slice A5 n5 c5) qs) ∧ Hid (Below Z.heap.size Z wr)) (fun b _ => n5 - (intOf b).toNat)
   case atStart => exact ⟨0, ps, Nat.zero_le _, rfl, hn5, HPM, HT5, G6⟩
   case round =>
    clear HPM HT5 G6
    obtain ⟨i, qs, hi, rfl, hql, hqm, hT, hG⟩ := hrel
    by_cases hlt : i < n5
    ·obtain ⟨q, hq⟩ : ∃ q, qs[i]? = some q := ⟨_, List.getElem?_eq_getElem (by omega)⟩
     obtain ⟨g, cap', A2, c2, hv, _, hq1, _, _, _, _⟩ := hT.out.node hq
     injection hv with hv1 hv2 hv3
     subst hv1
     obtain ⟨m, hm⟩ : ∃ m, m = q.2.es.length := ⟨_, rfl⟩
     have hm481 : m ≤ 481 := by rw [hm]; exact hqm.out i q hq
     rw [← hm] at hq1
     have HI : Hid (∃ q, qs[i]? = some q ∧ q.1 = .slice A2 m c2 ∧ q.2.es.length = m) := Lib.hid ⟨q, hq, hq1, hm.symm⟩
     clear hq hq1 hm hv2 hv3
     go_upto_region 13 with fail
     go_wp2_with fail
     go_loopw [18] (fun b wr => ∃ (k : Nat) (qs : List (Value × Nd)), k ≤ m ∧ b = .int .i64 k ∧ n5 = qs.length ∧ Hid (∀ (j : Nat) q, qs[j]? = some q → q.2.es.length ≤ 481) ∧ Hid (TOwn B5 wr (.slice (some ⟨g, 0, none⟩) n5 c5) qs) ∧ Hid (Below Z.heap.size Z wr) ∧ Hid (∃ q, qs[i]? = some q ∧ q.1 = .slice A2 m c2 ∧ q.2.es.length = m)) (fun b _ => m - (intOf b).toNat)
     case atStart => exact ⟨0, qs, Nat.zero_le _, rfl, hql, hqm, hT, hG, HI⟩
     case round =>
      clear HI hT hG hqm hql
      obtain ⟨k, rs, hk, rfl, hrl, hrm, hT, hG, hI⟩ := hrel
      obtain ⟨q, hq, hq1, hqm⟩ := hI.out
      obtain ⟨g', cap2, A2', c2', hv, _, hq1', e0, e1, z0, z1⟩ := hT.out.node hq
      injection hv with hv1 hv2 hv3
      injection hv1 with hv1
      injection hv1 with hv1 _ _
      subst hv1
      rw [hqm] at hq1' e0
      rw [hq1] at hq1'
      injection hq1' with hx1 _ hx3
      subst hx1
      subst hx3
      have hgZ : Z.heap.size ≤ g := by have := (hT.out.row.lt g rfl).1; omega
      have hin : i < n5 := hlt
      by_cases hkm : k < m
      ·obtain ⟨g2, c3, y, hq3, hy, hg2, k0, k1, f0, f1⟩ := town_edge hT.out hq (by rw [hqm]; exact hkm)
       rw [hqm, hq1] at hq3
       injection hq3 with hx1 _ hx3
       subst hx1
       have HT' := Lib.hid (hT.out.setEdge hq hq1 hqm hkm)
       have HG' : Hid (Below Z.heap.size Z ((wr.setCell ⟨g2, k * 2, none⟩ (.int .u8 0)).setCell ⟨g2, k * 2 + 1, none⟩ (.int .i64 0))) := Lib.hid ((hG.out.setCell (p := ⟨g2, k * 2, none⟩) (Nat.le_trans hBZ hg2) _).setCell (p := ⟨g2, k * 2 + 1, none⟩) (Nat.le_trans hBZ hg2) _)
       obtain ⟨us, hus⟩ : ∃ us, us = rs.set i (q.1, (⟨q.2.es.set k ⟨0, 0⟩, q.2.word⟩ : Nd)) := ⟨_, rfl⟩
       have HL' : Hid (n5 = us.length) := Lib.hid (by rw [hus, List.length_set]; exact hrl)
       have HM' : Hid (∀ (j : Nat) q, us[j]? = some q → q.2.es.length ≤ 481) := Lib.hid fun j q' hj => by
        rw [hus] at hj
        rcases set_get hj with ⟨rfl, rfl⟩ | ⟨_, hj⟩
        ·simp only [List.length_set]; exact hrm.out _ q hq
        ·exact hrm.out j q' hj
       have HI' : Hid (∃ q, us[i]? = some q ∧ q.1 = .slice (some ⟨g2, 0, none⟩) m c2 ∧ q.2.es.length = m) := Lib.hid ⟨(q.1, (⟨q.2.es.set k ⟨0, 0⟩, q.2.word⟩ : Nd)), by rw [hus, List.getElem?_set_self (by rw [← hrl]; exact hlt)], hq1, by simp only [List.length_set]; exact hqm⟩
       rw [← hus] at HT'
       clear hus hT hG hI hq hy hrm hrl hq1 hqm
       go_wp2_with fail
       go_roundw
       case rel => exact ⟨k + 1, us, by omega, by go_num, HL'.out, HM', HT', HG', HI'⟩
       case measure => simp [intOf]; omega
      ·have HT' := Lib.hid (TOwn.setNode (by rw [← hrl]; exact hT.out) hq)
       rw [← hrl] at HT'
       have HG' : Hid (Below Z.heap.size Z ((wr.setCell ⟨g, i * 2, none⟩ (.slice none 0 0)).setCell ⟨g, i * 2 + 1, none⟩ (.int .i64 0))) := Lib.hid ((hG.out.setCell (p := ⟨g, i * 2, none⟩) hgZ _).setCell (p := ⟨g, i * 2 + 1, none⟩) hgZ _)
       obtain ⟨us, hus⟩ : ∃ us, us = rs.set i (Value.slice none 0 0, (⟨[], 0⟩ : Nd)) := ⟨_, rfl⟩
       have HL' : Hid (n5 = us.length) := Lib.hid (by rw [hus, List.length_set]; exact hrl)
       have HM' : Hid (∀ (j : Nat) q, us[j]? = some q → q.2.es.length ≤ 481) := Lib.hid fun j q' hj => by
        rw [hus] at hj
        rcases set_get hj with ⟨rfl, rfl⟩ | ⟨_, hj⟩
        ·exact Nat.zero_le _
        ·exact hrm.out j q' hj
       rw [← hus] at HT'
       clear hus hT hG hI hq hrm hrl hq1 hqm
       go_wp2_with fail
       go_roundw
       case rel => exact ⟨i + 1, us, by omega, by go_num, HL'.out, HM', HT', HG'⟩
       case measure => simp [intOf]; omega
    ·have G7 := Lib.hid hG.out
     clear hT hG hqm
     obtain ⟨_, _, c0, c1, c2, c3, c4⟩ := HX.out _ (HZ.out _ G7.out).1
     go_wp2_with fail
     refine (WP.out _ (HZ.out _ G7.out).1).mono ?_
     rintro e w7 ⟨v7, rfl, ho7, h7⟩
     have HO7 := Lib.hid ho7
     have G8 := Lib.hid (G7.out.trans (h7.mono G7.out.size))
     clear c0 c1 c2 c3 c4 ho7 h7 G7 WP
     go_wp2_with fail
     refine (BU.out _ (HZ.out _ G8.out).1).mono ?_
     rintro e w8 ⟨A8, _, c8, ps8, rfl, rfl, _, _, _, hN8, h8⟩
     have HN8 := Lib.hid hN8
     replace HO7 := Lib.hid (own_belowU HO7.out h8 (Nat.le_refl _))
     have G9 := Lib.hid (G8.out.trans (h8.mono G8.out.size))
     clear hN8 h8 G8 BU
     obtain ⟨_, _, c0, c1, c2, c3, c4⟩ := HX.out _ (HZ.out _ G9.out).1
     go_wp2_with fail
     refine (WR.out _ (HZ.out _ G9.out).1).mono ?_
     rintro e w9 ⟨v9, rfl, ho9, h9⟩
     have HO9 := Lib.hid ho9
     replace HO7 := Lib.hid (own_belowU HO7.out h9 (Nat.le_refl _))
     replace HN8 := Lib.hid (HN8.out.next h9)
     have G10 := Lib.hid (G9.out.trans (h9.mono G9.out.size))
     clear c0 c1 c2 c3 c4 ho9 h9 G9 WR
     go_wp2_with fail
     refine (BE.out _ (HZ.out _ G10.out).1).mono ?_
     rintro e w10 ⟨rfl, rfl⟩
     go_wp2_with fail
     refine (BB.out _ (HZ.out _ G10.out).1).mono ?_
     rintro e w11 ⟨rfl, h11⟩
     replace HO7 := Lib.hid (own_belowU HO7.out h11 (Nat.le_refl _))
     replace HO9 := Lib.hid (own_belowU HO9.out h11 (Nat.le_refl _))
     replace HN8 := Lib.hid (HN8.out.next h11)
     have G11 := Lib.hid (G10.out.trans (h11.mono G10.out.size))
     clear h11 G10 BB
     have ST1 := Lib.hid (ST.out _ _ _ _ _ _ _ HO7.out HO9.out hf1)
     have gE : (E == E) = true := by simp
     have gU : (U == U) = true := by simp
     go_wp2_with fail
     refine ST1.out.mono ?_
     rintro e w12 ⟨rfl, h12⟩
     replace HN8 := Lib.hid (HN8.out.next h12)
     have G12 := Lib.hid (G11.out.trans (h12.mono G11.out.size))
     clear h12 G11 ST1 HO7 HO9
     obtain ⟨hzb, y0, y1, y2, hdz⟩ := HZ.out _ G12.out
     have SD1 := Lib.hid (SD.out _ _ hzb hdz HSM.out)
     obtain ⟨_, _, c0, c1, c2, c3, c4⟩ := HX.out _ hzb
     clear hzb hdz
     go_wp2_with fail
     refine SD1.out.mono ?_
     rintro e w13 ⟨rfl, h13⟩
     replace HN8 := Lib.hid (HN8.out.next h13)
     have G13 := Lib.hid (G12.out.trans (h13.mono G12.out.size))
     clear h13 G12 SD1 y0 y1 y2 c0 c1 c2 c3 c4
     by_cases hu0 : U = 0
     ·subst hu0
      have BO1 := Lib.hid (BO.out _ (HZ.out _ G13.out).1 rfl)
      rw [HR0.out rfl] at BO1
      go_wp2_with fail
      refine BO1.out.mono ?_
      rintro e w14 ⟨A9, n9, c9, rfl, hN9, _, h14⟩
      have TR1 := Lib.hid (TR.out _ _ _ c8 _ _ c9 (HN8.out.next h14) hN9)
      have G14 := Lib.hid (G13.out.trans (h14.mono G13.out.size))
      clear hN9 h14 G13 BO1 HN8
      go_wp2_with fail
      refine TR1.out.mono ?_
      rintro e w15 ⟨rfl, h15⟩
      have HF := Lib.hid (HX.out _ (HZ.out _ (G14.out.trans (h15.mono G14.out.size))).1).1
      clear h15
      go_wp2_with fail
      go_ret
      exact ⟨rfl, HF.out⟩
     ·have gu : (U != 0) = true := by simpa using hu0
      have HF := Lib.hid (HX.out _ (HZ.out _ G13.out).1).1
      go_wp2_with fail
      go_ret
      exact ⟨rfl, HF.out⟩
theorem restWorlds_walk (x : Wd) (loc : ByteArray) (t p : Int) (A : Option Addr) (n cap : Nat) (l : List ByteArray) (w : World) (hW : WdAt w x) (hM : MaxAt w w.heap.size) (hp : (Lit.int .i64 p).wf = true) (hT : StrsAt w w.heap.size A n l) (hs : ∀ s ∈ l, s.size ≤ 9223372036854775807) :
 Calls Tryz.prog 10 #[x.val, .string loc, .int .i64 t, .int .i64 p, .slice A n cap] w fun e w' => e = .returned (.bool true) ∧ Below w.heap.size w w' := by
 by_cases hE : worldE x = 0
 ·exact restWorlds_good x loc t p A n cap l w hW hM hp hT hs hE
 ·exact restWorlds_bad x loc t p A n cap w hW hM hE
end Go.Proofs.YtbbbeldbhlehnaaGreatDoor
