/- Parts of a proof, laid together. -/
import Derived.Deep.AppendLies
import Derived.BigRegion
import Derived.RangeFuncRecord
import Derived.Deep.RegionHeld3
import Derived.Deep.CutRange
import Derived.Deep.QuietTactic
import Derived.Test.YtbbbeldbhlehnaaGreatDoorMUTrB222
set_option linter.unusedSimpArgs false
set_option linter.unusedVariables false
section
set_option maxRecDepth 100000
namespace Gno
open Go Go.RowKit Go.Proofs.YtbbbeldbhlehnaaGreatDoor
theorem map_get {ps : List (Value × Nd)} {a : Nat} (h : a < ps.length) : ∃ p, ps[a]? = some p ∧ (ps.map (·.2))[a]? = some p.2 := ⟨ps[a], List.getElem?_eq_getElem h, by rw [List.getElem?_map, List.getElem?_eq_getElem h]; rfl⟩
theorem map_set (ps : List (Value × Nd)) (a : Nat) (q : Value × Nd) : (ps.set a q).map (·.2) = (ps.map (·.2)).set a q.2 := List.map_set
def leftB (l : List ByteArray) (k : Nat) (s : ByteArray) (t : List Nd) (a i : Nat) : List Nd := buildF (markT (goBT t a ((bs s).drop i)) (goBA t a ((bs s).drop i)) k) (k + 1) (bsL (l.drop (k + 1)))
theorem left_start {l : List ByteArray} {k : Nat} {s : ByteArray} (h : l[k]? = some s) (t : List Nd) : buildF t k (bsL (l.drop k)) = leftB l k s t 0 0 := by
 rw [drop_at h]; rfl
theorem left_yes {l : List ByteArray} {k : Nat} {s : ByteArray} {t : List Nd} {a i c j : Nat} {n : Nd} (hn : t[a]? = some n) (hc : (bs s)[i]? = some c) (h : edTo n.es c = (j : Int)) : leftB l k s t a i = leftB l k s t j (i + 1) := by
 unfold leftB
 rw [(goB_at hc).1, (goB_at hc).2, (step_yes hn h).1, (step_yes hn h).2]
theorem left_no {l : List ByteArray} {k : Nat} {s : ByteArray} {t : List Nd} {a i c : Nat} {n : Nd} (hn : t[a]? = some n) (hc : (bs s)[i]? = some c) (h : edTo n.es c = -1) : leftB l k s t a i = leftB l k s (t.set a ⟨insE n.es ⟨c, t.length⟩, n.word⟩ ++ [⟨[], -1⟩]) t.length (i + 1) := by
 unfold leftB
 rw [(goB_at hc).1, (goB_at hc).2, (step_no hn h).1, (step_no hn h).2]
theorem left_end {l : List ByteArray} {k : Nat} {s : ByteArray} {t : List Nd} {a i : Nat} (h : s.size ≤ i) : leftB l k s t a i = buildF (markT t a k) (k + 1) (bsL (l.drop (k + 1))) := by
 unfold leftB
 rw [List.drop_eq_nil_of_le (by rw [bs_len]; exact h)]
 rfl
theorem mark_yes {t : List Nd} {a k : Nat} {n : Nd} (hn : t[a]? = some n) (h : n.word < 0) : markT t a k = t.set a ⟨n.es, k⟩ := by
 unfold markT; rw [ndAt_of hn, if_pos h]
theorem mark_no {t : List Nd} {a k : Nat} {n : Nd} (hn : t[a]? = some n) (h : ¬ n.word < 0) : markT t a k = t := by
 unfold markT; rw [ndAt_of hn, if_neg h]
theorem build_all (l : List ByteArray) : buildL (bsL l) = buildF root 0 (bsL (l.drop 0)) := rfl
structure BuildI (l : List ByteArray) (B : Nat) (R : List Nd) (k : Nat) (s : ByteArray) (a i : Nat) (v : Value) (ps : List (Value × Nd)) (w : World) : Prop where
 own : TOwn B w v ps
 good : GoodT (ps.map (·.2))
 left : R = leftB l k s (ps.map (·.2)) a i
end Gno
namespace Go.Proofs.YtbbbeldbhlehnaaGreatDoor
open Go.RowKit Gno
theorem own_node {B : Nat} {w : World} {v : Value} {qs : List (Value × Nd)} {a n c : Nat} {A : Option Addr} {ys : List Eg} {wd : Int} (h : TOwn B w v qs) (hq : qs[a]? = some (.slice A n c, ⟨ys, wd⟩)) (hn : ys.length = n) :
 ∃ g cap, v = .slice (some ⟨g, 0, none⟩) qs.length cap ∧ w.cell? ⟨g, a * 2, none⟩ = some (.slice A n c) ∧ w.cell? ⟨g, a * 2 + 1, none⟩ = some (.int .i64 wd) := by
 obtain ⟨g, cap, A2, c2, h1, _, h2, h3, h4, _⟩ := h.node hq
 refine ⟨g, cap, h1, ?_, h4⟩
 rw [h3, ← h2]
theorem own_edge {B : Nat} {w : World} {v : Value} {qs : List (Value × Nd)} {a n c N : Nat} {A : Option Addr} {ys : List Eg} {wd : Int} {e : Eg} (h : TOwn B w v qs) (hq : qs[a]? = some (.slice A n c, ⟨ys, wd⟩)) (hn : ys.length = n) (hm : n ≤ maxLen) (hN : ys[N]? = some e) :
 ∃ b o, A = some ⟨b, o, none⟩ ∧ N < n ∧ EdAt w b (o + N * 2) e := by
 subst hn
 have hlt : N < ys.length := (List.getElem?_eq_some_iff.1 hN).1
 obtain ⟨b, o, e2, h1, _, h2, _, h3⟩ := edges_get (edges_own (h.edge a _ hq) hm (h.small a _ hq)) hlt
 rw [hN] at h2
 injection h2 with h2
 subst h2
 exact ⟨b, o, h1, hlt, h3 _ (Below.refl _ _)⟩
def BuiltR (w : World) (R : List Nd) (f : Value → Value) (e : Ending) (w' : World) : Prop := ∃ v ps, e = .returned (f v) ∧ TOwn w.heap.size w' v ps ∧ GoodT (ps.map (·.2)) ∧ ps.map (·.2) = R ∧ ps.length ≤ 481 ∧ Below w.heap.size w w'
set_option maxHeartbeats 16000000 in
set_option maxRecDepth 100000 in
theorem build_ok (A : Option Addr) (n cap : Nat) (l : List ByteArray) (w : World) (hT : StrsAt w w.heap.size A n l) (h40 : n ≤ 40) (hbad : l.any wordBad = false) :
 Calls Tryz.prog 30 #[.slice A n cap] w (BuiltR w (buildL (bsL l)) fun v => .tuple #[v, .int .i64 0]) := by
 have HT := Lib.hid hT
 have HN : Hid (l.length = n) := Lib.hid hT.1
 have CB : Hid (Calls Tryz.prog 63 #[.slice A n cap, .func (.func 64) #[] #[]] w fun e w' => e = .returned (.bool false) ∧ w = w') := Lib.hid (by have := containsBad_any A n cap l w hT; rwa [hbad] at this)
 have HB : Hid (∀ s ∈ l, s.size ≤ 12) := Lib.hid fun s hs => by
  have h1 := List.any_eq_false.1 hbad s hs
  unfold wordBad at h1
  simp at h1
  omega
 obtain ⟨R, hR⟩ : ∃ R, R = buildL (bsL l) := ⟨_, rfl⟩
 have HR := Lib.hid hR
 rw [← hR]
 have hd40 : decide ((40 : Int) < (n : Int)) = false := decide_eq_false (by omega)
 clear hT hbad hR
 go_enter Tryz.func30, Tryz.ntmps30
 go_wp2_with (go_at_call 63; (with_reducible refine CB.out.mono ?_); rintro e w1 ⟨rfl, rfl⟩)
 clear CB
 go_loopw [4, 20] (fun s4 s20 wr => ∃ (k : Nat) (ps : List (Value × Nd)), k ≤ n ∧ s20 = .int .i64 k ∧ Hid (TOwn w.heap.size wr s4 ps) ∧ Hid (GoodT (ps.map (·.2)) ∧ R = buildF (ps.map (·.2)) k (bsL (l.drop k))) ∧ 0 < ps.length ∧ ps.length ≤ 1 + 12 * k ∧ Below w.heap.size w wr) (fun _ s20 _ => n - (intOf s20).toNat)
 case atStart => exact ⟨0, _, Nat.zero_le _, rfl, Lib.hid (TOwn.start w w.heap.size (Nat.le_refl _)), Lib.hid ⟨good_root, HR.out.trans (build_all l)⟩, by simp, by simp, (Below.refl _ _).alloc (Nat.le_refl _) _⟩
 case round =>
  obtain ⟨k, ps, hk, rfl, hO, hG, hp0, hpl, hb⟩ := hrel
  have hz := hb.size
  by_cases hlt : k < n
  ·obtain ⟨b, o, s, hA, hbB, hs, hss⟩ := strs_get HT.out hlt
   subst hA
   have e0 := hss _ hb
   have HS := Lib.hid hs
   have hs12 := HB.out s (List.mem_of_getElem? hs)
   have hG2 : Hid (GoodT (ps.map (·.2)) ∧ R = leftB l k s (ps.map (·.2)) 0 0) := Lib.hid ⟨hG.out.1, hG.out.2.trans (left_start hs _)⟩
   clear hs hss hG
   obtain ⟨wo, hwo⟩ : ∃ wo : World, wo = wr := ⟨_, rfl⟩
   rw [← hwo] at hb hz e0 hO
   rw [← hwo]
   clear hwo
   go_wp2
   clear e0
   go_loopw [4, 7, 27] (fun s4 s7 s27 wr => ∃ (i a : Nat) (ps : List (Value × Nd)), i ≤ s.size ∧ s27 = .int .i64 i ∧ s7 = .int .i64 a ∧ a < ps.length ∧ Hid (TOwn w.heap.size wr s4 ps) ∧ Hid (GoodT (ps.map (·.2)) ∧ R = leftB l k s (ps.map (·.2)) a i) ∧ ps.length ≤ 1 + 12 * k + i ∧ Below w.heap.size w wr) (fun _ _ s27 _ => s.size - (intOf s27).toNat)
   case atStart => exact ⟨0, 0, ps, Nat.zero_le _, rfl, rfl, hp0, hO, hG2, by omega, hb⟩
   case round =>
    clear hO hG2 hb hz hpl hp0
    clear ps
    obtain ⟨i, a, ps, hi, rfl, rfl, ha, hO, hG, hpl, hb⟩ := hrel
    have hz := hb.size
    obtain ⟨p, hp, hpm⟩ := map_get ha
    obtain ⟨g, cp, A2, c2, rfl, hgl, hpe, f0, f1, f2, f3⟩ := hO.out.node hp
    have HP := Lib.hid hp
    have HPM := Lib.hid hpm
    have hplen := good_len hG.out.1 hpm
    have HPE := Lib.hid hpe
    clear hp hpm
    by_cases hit : i < s.size
    ·have hc := bs_at s i hit
     have hc255 := byte_le s i hit
     obtain ⟨c, hcc⟩ : ∃ c, c = s[i].toNat := ⟨_, rfl⟩
     rw [← hcc] at hc hc255
     have HCC := Lib.hid hcc
     have hr := (hG.out.1 a p.2 HPM.out).1
     have hE : EdgesAt wr wr.heap.size A2 p.2.es.length p.2.es := edges_own (by have := hO.out.edge a p HP.out; rwa [HPE.out] at this) (by unfold maxLen; omega) (hO.out.small a p HP.out)
     have HE := Lib.hid hE
     have HF : Hid (∀ V, Below wr.heap.size wr V → Calls Tryz.prog 65 #[.agg #[.slice A2 p.2.es.length c2, .int .i64 p.2.word], .int .u8 s[i].toNat] V fun e w' => e = .returned (.tuple #[.int .i64 (cntE p.2.es c), .bool (hasE p.2.es c)]) ∧ Below V.heap.size V w') := Lib.hid fun V hV => by rw [← hcc]; exact findP_any p.2 A2 c2 c V (EdgesAt.next HE.out hV) hr
     have HRI := Lib.hid hr
     have HTo := Lib.hid (good_to hG.out.1 HPM.out c)
     obtain ⟨T, hTT⟩ : ∃ T, T = hasE p.2.es c := ⟨_, rfl⟩
     have HT2 := Lib.hid hTT
     rw [← hTT] at HF
     obtain ⟨N, hNN⟩ : ∃ N, N = cntE p.2.es c := ⟨_, rfl⟩
     have HN2 := Lib.hid hNN
     rw [← hNN] at HF
     obtain ⟨ml, hml⟩ : ∃ ml, ml = p.2.es.length := ⟨_, rfl⟩
     have HML := Lib.hid hml
     obtain ⟨wd, hwd⟩ : ∃ wd, wd = p.2.word := ⟨_, rfl⟩
     have HWD := Lib.hid hwd
     rw [← hml] at HF f0 HE hplen
     rw [← hwd] at HF f1
     obtain ⟨nn, hnn⟩ : ∃ nn, nn = ps.length := ⟨_, rfl⟩
     have HNN := Lib.hid hnn
     rw [← hnn] at ha hpl
     have HC := Lib.hid hc
     have hbd : Below wr.heap.size wr wr.drew := ⟨rfl, rfl, rfl, Nat.le_refl _, fun _ _ => rfl⟩
     have HS2 : Hid (∀ V, Below wr.heap.size wr V → Below wr.heap.size wr V ∧ (V.cell? ⟨g, a * 2, none⟩ = some (.slice A2 ml c2) ∧ V.cell? ⟨g, a * 2 + 1, none⟩ = some (.int .i64 wd))) := Lib.hid fun V hV => ⟨hV, (hV.cell hgl).trans f0, (hV.cell hgl).trans f1⟩
     have HFZ : Hid (∀ V, Below wr.heap.size wr V → V.frozen? ⟨g, a * 2, none⟩ = false) := Lib.hid fun V hV => (hV.frozen (p := ⟨g, a * 2, none⟩) hgl).trans f2
     clear hc hcc hr hE hTT hNN hml hwd f2 f3
     rw [← hnn]
     clear hnn
     cases T
     ·go_wp2
      go_region_held3 (fun w' => Below wr.heap.size wr w' ∧ (w'.cell? ⟨g, a * 2, none⟩ = some (.slice A2 ml c2) ∧ w'.cell? ⟨g, a * 2 + 1, none⟩ = some (.int .i64 wd))) (first | exact HS2.out _ (Below.refl _ _) | exact HS2.out _ hbd | exact HS2.out _ hb2) (first | (go_at_call 65; (with_reducible refine (HF.out _ (by first | exact Below.refl _ _ | exact hbd)).mono ?_); rintro e w2 ⟨rfl, hb20⟩; have hb2 := hbd.trans (hb20.mono hbd.size); clear hb20))
      have hNE := hasE_no HRI.out HT2.out.symm
      have HO2 := Lib.hid (hO.out.kept (grown_of_below hb2))
      have hb3 := hb.trans (hb2.mono hz)
      obtain ⟨ys, hys⟩ : ∃ ys, ys = insE p.2.es ⟨c, nn⟩ := ⟨_, rfl⟩
      have HYS := Lib.hid hys
      have HI : Hid (∀ W xb, Below w2.heap.size w2 W → w2.heap.size ≤ xb → W.heap[xb]? = some (.cells #[.int .u8 s[i].toNat, .int .i64 nn] 72 (0, 0)) → Calls Tryz.prog 66 #[.slice A2 ml c2, .int .i64 N, .slice (some ⟨xb, 0, none⟩) 1 1] W (InsR w.heap.size (.slice A2 ml c2) ml ys W)) := Lib.hid fun W xb hW hxl hxc => by
       have h1 := (HO2.out.kept (grown_of_below hW)).edge a p HP.out
       have h0 := HO2.out.edge a p HP.out
       rw [HPE.out, ← HML.out] at h1 h0
       have h2 := ins_any w.heap.size (.slice A2 ml c2) ml N p.2.es ⟨c, nn⟩ xb W h1 (Nat.le_trans hb3.size hW.size) (by omega) (by rw [HN2.out, HML.out]; exact cntE_le _ _) (by rw [HCC.out]; exact hxc) (fun e => by have := (h0.lt _ e).2; omega)
       rw [HYS.out, insE_cnt HRI.out hNE.2, ← HN2.out]
       exact h2
      have hz2 := hb2.size
      have HS3 : Hid (∀ V, Below w2.heap.size w2 V → V.cell? ⟨g, a * 2, none⟩ = some (.slice A2 ml c2) ∧ V.frozen? ⟨g, a * 2, none⟩ = false) := Lib.hid fun V hV => ⟨(HS2.out V (hb2.trans (hV.mono hz2))).2.1, HFZ.out V (hb2.trans (hV.mono hz2))⟩
      have hbd3 : Below w2.heap.size w2 w2.drew := ⟨rfl, rfl, rfl, Nat.le_refl _, fun _ _ => rfl⟩
      have HB3 : Hid (Below w2.heap.size w2 (w2.drew.alloc (.cells #[.int .u8 s[i].toNat, .int .i64 nn] 72))) := Lib.hid (hbd3.alloc (Nat.le_refl _) _)
      have HX3 : Hid ((w2.drew.alloc (.cells #[.int .u8 s[i].toNat, .int .i64 nn] 72)).heap[w2.heap.size]? = some (.cells #[.int .u8 s[i].toNat, .int .i64 nn] 72 (0, 0))) := Lib.hid (World.alloc_heap_new w2.drew _)
      have HAP : Hid ((Value.slice A2 ml c2).ownBlock ≠ some g) := Lib.hid fun e => hO.out.apart a p HP.out g rfl (by rw [HPE.out, ← HML.out]; exact e)
      have HYL : Hid (ys.length = ml + 1) := Lib.hid (by rw [hys, insE_len, HML.out])
      have HG3 : Hid (∀ w3, (w2.drew.alloc (.cells #[.int .u8 s[i].toNat, .int .i64 nn] 72)).grownBy w3 (Value.slice A2 ml c2).ownBlock → w3.cell? ⟨g, a * 2, none⟩ = some (.slice A2 ml c2) ∧ w3.frozen? ⟨g, a * 2, none⟩ = false) := Lib.hid fun w3 h => by
       obtain ⟨k0, k1⟩ := HS3.out _ HB3.out
       have hlt : (⟨g, a * 2, none⟩ : Addr).block < (w2.drew.alloc (.cells #[.int .u8 s[i].toNat, .int .i64 nn] 72)).heap.size := Nat.lt_of_lt_of_le hgl (Nat.le_trans hz2 HB3.out.size)
       have hne : some g ≠ (Value.slice A2 ml c2).ownBlock := fun e => HAP.out e.symm
       exact ⟨(h.cell_far _ hlt hne).trans k0, (h.frozen_far _ hlt hne).trans k1⟩
      have HT3 : Hid (∀ w3 v3, w3.ownsRow w.heap.size 72 2 v3 (ml + 1) (eds ys) → (w2.drew.alloc (.cells #[.int .u8 s[i].toNat, .int .i64 nn] 72)).grownBy w3 (Value.slice A2 ml c2).ownBlock → NearOr (w2.drew.alloc (.cells #[.int .u8 s[i].toNat, .int .i64 nn] 72)) (.slice A2 ml c2) v3 → TOwn w.heap.size (w3.setCell ⟨g, a * 2, none⟩ v3) (.slice (some ⟨g, 0, none⟩) nn cp) (ps.set a (v3, ⟨ys, wd⟩)) ∧ Below w.heap.size w (w3.setCell ⟨g, a * 2, none⟩ v3)) := Lib.hid fun w3 v3 h1 h2 h3 => by
       have ho2 := HO2.out.kept (grown_of_below HB3.out)
       have hgB : w.heap.size ≤ g := (ho2.row.lt g rfl).1
       have hpB : ∀ k, (Value.slice A2 ml c2).ownBlock = some k → w.heap.size ≤ k := fun k hk => ((HO2.out.edge a p HP.out).lt k (by rw [HPE.out, ← HML.out]; exact hk)).1
       have hp1 : p.1 = .slice A2 ml c2 := by rw [HPE.out, HML.out]
       have hsy : ∀ e ∈ ys, e.c ≤ 255 := fun e he => by
        rw [HYS.out] at he
        rcases insE_mem.1 he with rfl | he
        ·exact hc255
        ·exact HO2.out.small a p HP.out e he
       obtain rfl := HNN.out
       rw [HWD.out]
       exact ⟨ho2.setEdges HP.out v3 ys (by rw [HYL.out]; exact h1) (by rw [hp1]; exact h2) (by rw [hp1]; exact h3) hsy, ((hb3.trans (HB3.out.mono hb3.size)).grown h2 (Nat.le_trans hb3.size HB3.out.size) hpB).setCell hgB _⟩
      have HNY : Hid (ys[N]? = some ⟨c, nn⟩) := Lib.hid (by
       rw [hys, insE_cnt HRI.out hNE.2, ← HN2.out, List.getElem?_append_right (by rw [List.length_take]; exact Nat.min_le_left _ _)]
       rw [List.length_take, Nat.min_eq_left (by rw [HN2.out]; exact cntE_le _ _), Nat.sub_self]
       rfl)
      have HG5 : Hid (∀ v3, GoodT ((ps.set a (v3, (⟨ys, wd⟩ : Nd)) ++ [(Value.slice none 0 0, (⟨[], -1⟩ : Nd))]).map (·.2)) ∧ R = leftB l k s ((ps.set a (v3, (⟨ys, wd⟩ : Nd)) ++ [(Value.slice none 0 0, (⟨[], -1⟩ : Nd))]).map (·.2)) nn (i + 1)) := Lib.hid fun v3 => by
       have e1 : (ps.set a (v3, (⟨ys, wd⟩ : Nd)) ++ [(Value.slice none 0 0, (⟨[], -1⟩ : Nd))]).map (·.2) = (ps.map (·.2)).set a ⟨insE p.2.es ⟨c, (ps.map (·.2)).length⟩, p.2.word⟩ ++ [⟨[], -1⟩] := by
        rw [List.map_append, map_set, HYS.out, HWD.out, List.length_map, ← HNN.out]; rfl
       rw [e1]
       refine ⟨good_grow hG.out.1 HPM.out hc255 hNE.2, ?_⟩
       have := hG.out.2.trans (left_no HPM.out HC.out hNE.1)
       rwa [List.length_map, ← HNN.out] at this ⊢
      clear hys hO
      go_wp2
      obtain ⟨q0, q1⟩ := HS3.out _ hbd3
      obtain ⟨q2, q3⟩ := HS3.out _ (Below.refl _ _)
      obtain ⟨q4, q5⟩ := HS3.out (w2.alloc (.cells #[.int .u8 s[i].toNat, .int .i64 nn] 72)) ((Below.refl _ _).alloc (Nat.le_refl _) _)
      go_region_law (first | (go_simp; go_at_call 66; refine (HI.out _ _ HB3.out (Nat.le_refl _) HX3.out).mono ?_; rintro e w3 hI3; obtain ⟨v3, rfl, ho3, hg3, hn3⟩ := hI3; obtain ⟨A3, cp3, rfl, _⟩ := own_form ho3; obtain ⟨c3, z3⟩ := HG3.out _ hg3; obtain ⟨HT4, HB4⟩ := HT3.out _ _ ho3 hg3 hn3; replace ho3 := Lib.hid ho3; replace HT4 := Lib.hid HT4; replace HB4 := Lib.hid HB4; replace hn3 := Lib.hid hn3; replace hg3 := Lib.hid hg3))
      all_goals
       obtain ⟨wz, hwz⟩ : ∃ wz, wz = w3.setCell ⟨g, a * 2, none⟩ (.slice A3 (ml + 1) cp3) := ⟨_, rfl⟩
       rw [← hwz] at HT4 HB4
       rw [← hwz]
       clear hwz
       have HT5 : Hid (TOwn w.heap.size (wz.alloc (.cells #[.slice none 0 0, .int .i64 (-1)] 70)) (.slice (some ⟨g, 0, none⟩) nn cp) (ps.set a (.slice A3 (ml + 1) cp3, (⟨ys, wd⟩ : Nd)))) := Lib.hid (HT4.out.kept (World.grownBy_alloc wz _ none))
       have HLS : Hid ((ps.set a (.slice A3 (ml + 1) cp3, (⟨ys, wd⟩ : Nd))).length = nn) := Lib.hid (by rw [List.length_set, HNN.out])
       go_wp2_with (at_builtin; go_must (refine wpList_app2 rfl _ _ 65 rfl w.heap.size 70 (.agg #[.slice none 0 0, .int .i64 0]) 2 32 Tryz.underlying65 infoNode rfl (by decide) _ nn _ rfl (HLS.out ▸ HT5.out.row) ⟨wz.heap.size, 0, none⟩ 1 1 [.slice none 0 0, .int .i64 (-1)] rfl rfl (laid_at (cs := #[.slice none 0 0, .int .i64 (-1)])) (by intro u hu; simp at hu; rcases hu with rfl | rfl <;> rfl) (by unfold maxLen; omega) (by omega) (by have := HB4.out.size; simp at this ⊢ <;> omega) ?_); intro v' w4 hown4 hg4 hn4)
       obtain ⟨qs, hqs⟩ : ∃ qs, qs = ps.set a (.slice A3 (ml + 1) cp3, (⟨ys, wd⟩ : Nd)) ++ [(Value.slice none 0 0, (⟨[], -1⟩ : Nd))] := ⟨_, rfl⟩
       have HT6 : Hid (TOwn w.heap.size w4 v' qs) := Lib.hid (by rw [hqs]; exact (HLS.out ▸ HT5.out : TOwn w.heap.size (wz.alloc (.cells #[.slice none 0 0, .int .i64 (-1)] 70)) (.slice (some ⟨g, 0, none⟩) nn cp) (ps.set a (.slice A3 (ml + 1) cp3, (⟨ys, wd⟩ : Nd)))).push (by rw [HLS.out]; exact hown4) hg4 hn4)
       have HB6 : Hid (Below w.heap.size w w4) := Lib.hid ((HB4.out.alloc HB4.out.size _).grown hg4 (by have := HB4.out.size; simp at this ⊢ <;> omega) (fun k hk => (HT5.out.row.lt k hk).1))
       have HQA : Hid (qs[a]? = some (.slice A3 (ml + 1) cp3, ⟨ys, wd⟩)) := Lib.hid (by
        rw [hqs, List.getElem?_append_left (by rw [HLS.out]; exact ha), List.getElem?_set_self (by rw [← HNN.out]; exact ha)])
       have HQL : Hid (qs.length = nn + 1) := Lib.hid (by rw [hqs, List.length_append, HLS.out]; rfl)
       have HG6 : Hid (GoodT (qs.map (·.2)) ∧ R = leftB l k s (qs.map (·.2)) nn (i + 1)) := Lib.hid (by rw [hqs]; exact HG5.out _)
       clear hqs
       obtain ⟨g2, cap2, hv, k0, k1⟩ := own_node HT6.out HQA.out HYL.out
       rw [HQL.out] at hv
       subst hv
       obtain ⟨b3, o3, rfl, hN3, d0, d1⟩ := own_edge HT6.out HQA.out HYL.out (by unfold maxLen; omega) HNY.out
       simp only at d1
       go_wp2
       go_roundw
       case rel => exact ⟨i + 1, nn, qs, by omega, by go_num, rfl, by rw [HQL.out]; omega, HT6, HG6, by rw [HQL.out]; omega, HB6.out⟩
       case measure => simp [intOf]; omega
     ·obtain ⟨e, he, hto⟩ : ∃ e, p.2.es[N]? = some e ∧ edTo p.2.es c = e.to := by rw [HN2.out]; exact hasE_yes HRI.out HT2.out.symm
      have hNl : N < ml := by rw [HML.out]; exact (List.getElem?_eq_some_iff.1 he).1
      obtain ⟨b2, o2, e2, hA2, hbB2, he2, hec, hee⟩ := edges_get HE.out hNl
      rw [he] at he2
      injection he2 with he2
      subst he2
      obtain ⟨j, hj, hjl⟩ : ∃ j : Nat, edTo p.2.es c = (j : Int) ∧ j < nn := by
       rcases HTo.out with ⟨j, h1, h2⟩ | ⟨h1, h2⟩
       ·exact ⟨j, h1, by rw [HNN.out]; simpa using h2⟩
       ·exact absurd (by
         have h3 := HT2.out
         unfold hasE at h3
         rw [← HN2.out, he] at h3
         simp only at h3
         exact beq_iff_eq.1 h3.symm) (h2 e (List.mem_of_getElem? he))
      have HG2 : Hid (GoodT (ps.map (·.2)) ∧ R = leftB l k s (ps.map (·.2)) j (i + 1)) := Lib.hid ⟨hG.out.1, hG.out.2.trans (left_yes HPM.out HC.out hj)⟩
      have HTJ : Hid (e.to = (j : Int)) := Lib.hid (hto.symm.trans hj)
      have HEE : Hid (∀ V, Below wr.heap.size wr V → EdAt V b2 (o2 + N * 2) e) := Lib.hid hee
      clear he hto hj hee hG HTo HT2 HRI
      subst hA2
      go_wp2
      go_region_held3 (fun w' => Below wr.heap.size wr w' ∧ (w'.cell? ⟨g, a * 2, none⟩ = some (.slice (some ⟨b2, o2, none⟩) ml c2) ∧ w'.cell? ⟨g, a * 2 + 1, none⟩ = some (.int .i64 wd))) (first | exact HS2.out _ (Below.refl _ _) | exact HS2.out _ hbd | exact HS2.out _ hb2) (first | (go_at_call 65; (with_reducible refine (HF.out _ (by first | exact Below.refl _ _ | exact hbd)).mono ?_); rintro e w2 ⟨rfl, hb20⟩; have hb2 := hbd.trans (hb20.mono hbd.size); clear hb20))
      obtain ⟨_, k0, k1⟩ := HS2.out _ hb2
      obtain ⟨g0, g1⟩ := HEE.out _ hb2
      rw [HTJ.out] at g1
      have HO2 := Lib.hid (hO.out.kept (grown_of_below hb2))
      have hb3 := hb.trans (hb2.mono hz)
      clear hO
      go_wp2
      go_roundw
      case rel => exact ⟨i + 1, j, ps, by omega, by go_num, rfl, by rw [← HNN.out]; exact hjl, by rw [HNN.out]; exact HO2, HG2, by rw [← HNN.out]; omega, hb3⟩
      case measure => simp [intOf]; omega
    ·have hL : R = buildF (markT (ps.map (·.2)) a k) (k + 1) (bsL (l.drop (k + 1))) := hG.out.2.trans (left_end (by omega))
     have hgB : w.heap.size ≤ g := (hO.out.row.lt g rfl).1
     by_cases hw0 : p.2.word < 0
     ·have hM := mark_yes (k := k) HPM.out hw0
      have HG9 : Hid (GoodT ((ps.set a (p.1, (⟨p.2.es, k⟩ : Nd))).map (·.2)) ∧ R = buildF ((ps.set a (p.1, (⟨p.2.es, k⟩ : Nd))).map (·.2)) (k + 1) (bsL (l.drop (k + 1)))) := Lib.hid (by
       rw [map_set, ← hM]
       exact ⟨good_mark hG.out.1 a k, hL⟩)
      have HT9 : Hid (TOwn w.heap.size (wr.setCell ⟨g, a * 2 + 1, none⟩ (.int .i64 k)) (.slice (some ⟨g, 0, none⟩) ps.length cp) (ps.set a (p.1, ⟨p.2.es, k⟩))) := Lib.hid (hO.out.setWord HP.out k)
      have HB9 : Hid (Below w.heap.size w (wr.setCell ⟨g, a * 2 + 1, none⟩ (.int .i64 k))) := Lib.hid (hb.setCell hgB _)
      have HLS : Hid ((ps.set a (p.1, (⟨p.2.es, k⟩ : Nd))).length = ps.length) := Lib.hid (by rw [List.length_set])
      have hd0 : decide (p.2.word < 0) = true := decide_eq_true hw0
      clear hL hM hG hO
      go_wp2
      go_roundw
      case rel => exact ⟨k + 1, _, by omega, by go_num, HT9, HG9, by rw [HLS.out]; omega, by rw [HLS.out]; omega, HB9.out⟩
      case measure => simp [intOf]; omega
     ·have hM := mark_no (k := k) HPM.out hw0
      have HG9 : Hid (GoodT (ps.map (·.2)) ∧ R = buildF (ps.map (·.2)) (k + 1) (bsL (l.drop (k + 1)))) := Lib.hid (by
       refine ⟨hG.out.1, ?_⟩
       rw [← hM]
       exact hL)
      have hd0 : decide (p.2.word < 0) = false := decide_eq_false hw0
      clear hL hM hG
      go_wp2
      go_roundw
      case rel => exact ⟨k + 1, ps, by omega, by go_num, hO, HG9, by omega, by omega, hb⟩
      case measure => simp [intOf]; omega
  ·have hk2 : k = n := by omega
   subst hk2
   have hL : R = ps.map (·.2) := by rw [hG.out.2, List.drop_eq_nil_of_le (by rw [HN.out]; exact Nat.le_refl _)]; rfl
   go_wp2
   go_ret2
   exact ⟨_, ps, rfl, hO.out, hG.out.1, by first | rfl | exact hL.symm, by omega, hb⟩
theorem build_many (A : Option Addr) (n cap : Nat) (w : World) (h40 : 40 < n) (hn : n ≤ 9223372036854775807) :
 Calls Tryz.prog 30 #[.slice A n cap] w (fun e w' => e = .returned (.tuple #[.slice none 0 0, .int .i64 2]) ∧ w = w') := by
 have hd40 : decide ((40 : Int) < (n : Int)) = true := decide_eq_true (by omega)
 go_enter Tryz.func30, Tryz.ntmps30
 go_wp2
 go_ret2
 exact ⟨rfl, rfl⟩
theorem build_name (A : Option Addr) (n cap : Nat) (l : List ByteArray) (w : World) (hT : StrsAt w w.heap.size A n l) (h40 : n ≤ 40) (hbad : l.any wordBad = true) :
 Calls Tryz.prog 30 #[.slice A n cap] w (fun e w' => e = .returned (.tuple #[.slice none 0 0, .int .i64 5]) ∧ w = w') := by
 have CB : Hid (Calls Tryz.prog 63 #[.slice A n cap, .func (.func 64) #[] #[]] w fun e w' => e = .returned (.bool true) ∧ w = w') := Lib.hid (by have := containsBad_any A n cap l w hT; rwa [hbad] at this)
 clear hT hbad
 have hd40 : decide ((40 : Int) < (n : Int)) = false := decide_eq_false (by omega)
 go_enter Tryz.func30, Tryz.ntmps30
 go_wp2_with (go_at_call 63; (with_reducible refine CB.out.mono ?_); rintro e w1 ⟨rfl, rfl⟩)
 go_ret2
 exact ⟨rfl, rfl⟩
theorem build_bad (A : Option Addr) (n cap : Nat) (l : List ByteArray) (w : World) (hT : StrsAt w w.heap.size A n l) (hE : wordsE l ≠ 0) :
 Calls Tryz.prog 30 #[.slice A n cap] w (fun e w' => e = .returned (.tuple #[.slice none 0 0, .int .i64 (wordsE l)]) ∧ w = w') := by
 have hl := hT.1
 have hn : n ≤ 9223372036854775807 := hT.2.1
 unfold wordsE at hE ⊢
 by_cases h40 : 40 < n
 ·rw [if_pos (by omega)]
  exact build_many A n cap w h40 hn
 ·rw [if_neg (by omega)] at hE ⊢
  cases hb : l.any wordBad
  ·rw [hb] at hE; exact absurd rfl hE
  ·rw [if_pos rfl]
   exact build_name A n cap l w hT (by omega) hb
theorem build_right (A : Option Addr) (n cap : Nat) (l : List ByteArray) (w : World) (hT : StrsAt w w.heap.size A n l) (hE : wordsE l = 0) :
 Calls Tryz.prog 30 #[.slice A n cap] w (BuiltR w (buildL (bsL l)) fun v => .tuple #[v, .int .i64 0]) := by
 have hl := hT.1
 unfold wordsE at hE
 by_cases h40 : 40 < n
 ·rw [if_pos (by omega)] at hE; cases hE
 ·rw [if_neg (by omega)] at hE
  cases hb : l.any wordBad
  ·exact build_ok A n cap l w hT (by omega) hb
  ·rw [hb, if_pos rfl] at hE; cases hE
end Go.Proofs.YtbbbeldbhlehnaaGreatDoor
end
section
set_option maxRecDepth 100000
namespace Gno
open Go Go.RowKit Go.Proofs.YtbbbeldbhlehnaaGreatDoor
def begL : List ByteArray := [⟨#[97, 98]⟩, ⟨#[97, 98, 99]⟩, ⟨#[98]⟩, ⟨#[97, 98]⟩]
def begT : List Nd := [⟨[⟨97, 1⟩, ⟨98, 4⟩], -1⟩, ⟨[⟨98, 2⟩], -1⟩, ⟨[⟨99, 3⟩], 0⟩, ⟨[], 1⟩, ⟨[], 2⟩]
theorem nodes_nil (w : World) : NodesAt w w.heap.size none 0 [] := ⟨rfl, Nat.zero_le _, fun h => by omega⟩
end Gno
namespace Go.Proofs.YtbbbeldbhlehnaaGreatDoor
open Go.RowKit Gno
def BuiltN (w : World) (R : List Nd) (f : Value → Value) (e : Ending) (w' : World) : Prop := ∃ A n cap, e = .returned (f (.slice A n cap)) ∧ NodesAt w' w'.heap.size A n R ∧ n ≤ 481 ∧ Below w.heap.size w w'
theorem built_n {w : World} {R : List Nd} {f : Value → Value} {e : Ending} {w' : World} (h : BuiltR w R f e w') : BuiltN w R f e w' := by
 obtain ⟨v, ps, rfl, ho, hg, hR, hl, hb⟩ := h
 obtain ⟨A, cap, rfl, hn⟩ := ho.nodes (by unfold maxLen; omega) (fun i p hp => by
  have := good_len hg (a := i) (n := p.2) (by rw [List.getElem?_map, hp]; rfl)
  unfold maxLen; omega)
 exact ⟨A, ps.length, cap, rfl, hR ▸ hn, hl, hb⟩
theorem build_n (A : Option Addr) (n cap : Nat) (l : List ByteArray) (w : World) (hT : StrsAt w w.heap.size A n l) (hE : wordsE l = 0) :
 Calls Tryz.prog 30 #[.slice A n cap] w (BuiltN w (buildL (bsL l)) fun v => .tuple #[v, .int .i64 0]) := (build_right A n cap l w hT hE).mono fun e w' h => built_n h
end Go.Proofs.YtbbbeldbhlehnaaGreatDoor
end
section
namespace Gno
open Go Go.RowKit Go.Proofs.YtbbbeldbhlehnaaGreatDoor
theorem eds_set : ∀ (l : List Eg) (i : Nat) (x y : Eg), l[i]? = some y → ((eds l).set (i * 2) (.int .u8 x.c)).set (i * 2 + 1) (.int .i64 x.to) = eds (l.set i x)
 | a :: t, 0, x, y, h => rfl
 | a :: t, i + 1, x, y, h => by
   have ih := eds_set t i x y (by simpa using h)
   have e1 : eds (a :: t) = .int .u8 a.c :: .int .i64 a.to :: eds t := rfl
   have e2 : eds ((a :: t).set (i + 1) x) = .int .u8 a.c :: .int .i64 a.to :: eds (t.set i x) := rfl
   rw [e1, e2, ← ih, show (i + 1) * 2 = i * 2 + 1 + 1 by omega, show i * 2 + 1 + 1 + 1 = (i * 2 + 1) + 1 + 1 by omega]
   rfl
theorem eds_get : ∀ (l : List Eg) (i : Nat) (x : Eg), l[i]? = some x → (eds l)[i * 2]? = some (.int .u8 x.c) ∧ (eds l)[i * 2 + 1]? = some (.int .i64 x.to)
 | a :: t, 0, x, h => by
   obtain rfl : a = x := by simpa using h
   exact ⟨rfl, rfl⟩
 | a :: t, i + 1, x, h => by
   have ih := eds_get t i x (by simpa using h)
   have e1 : eds (a :: t) = .int .u8 a.c :: .int .i64 a.to :: eds t := rfl
   rw [e1, show (i + 1) * 2 = i * 2 + 1 + 1 by omega]
   simp only [List.getElem?_cons_succ]
   exact ih
def bub (es : List Eg) (x : Eg) (j : Nat) : List Eg := es.take j ++ x :: es.drop j
theorem bub_end (es : List Eg) (x : Eg) : bub es x es.length = es ++ [x] := by
 unfold bub; simp
theorem bub_split {es : List Eg} {x e : Eg} {i : Nat} (h : es[i]? = some e) : bub es x (i + 1) = es.take i ++ e :: x :: es.drop (i + 1) ∧ bub es x i = es.take i ++ x :: e :: es.drop (i + 1) := by
 have hl := (List.getElem?_eq_some_iff.1 h).1
 have h1 : es.take (i + 1) = es.take i ++ [e] := by rw [List.take_add_one, h]; rfl
 have h2 : es.drop i = e :: es.drop (i + 1) := drop_at h
 unfold bub
 exact ⟨by rw [h1]; simp, by rw [h2]⟩
theorem bub_get {es : List Eg} {x e : Eg} {i : Nat} (h : es[i]? = some e) : (bub es x (i + 1))[i]? = some e ∧ (bub es x (i + 1))[i + 1]? = some x := by
 have hl := (List.getElem?_eq_some_iff.1 h).1
 have ht : (es.take i).length = i := by rw [List.length_take]; omega
 rw [(bub_split h).1]
 exact ⟨by rw [List.getElem?_append_right (by omega), ht, Nat.sub_self]; rfl, by rw [List.getElem?_append_right (by omega), ht, show i + 1 - i = 1 by omega]; rfl⟩
theorem bub_swap {es : List Eg} {x e : Eg} {i : Nat} (h : es[i]? = some e) : ((bub es x (i + 1)).set i x).set (i + 1) e = bub es x i := by
 have hl := (List.getElem?_eq_some_iff.1 h).1
 have ht : (es.take i).length = i := by rw [List.length_take]; omega
 rw [(bub_split h).1, (bub_split h).2, List.set_append_right _ _ (by omega), ht, Nat.sub_self, List.set_append_right _ _ (by omega), ht, show i + 1 - i = 1 by omega]
 rfl
theorem bub_ins {es : List Eg} {x : Eg} {j : Nat} (hr : Rise es) (hno : ∀ e ∈ es, e.c ≠ x.c) (hj : j = cntE es x.c) : bub es x j = insE es x := by
 rw [hj, insE_cnt hr hno]; rfl
theorem bub_stop {es : List Eg} {x : Eg} {j : Nat} (hr : Rise es) (hno : ∀ e ∈ es, e.c ≠ x.c) (hl : cntE es x.c ≤ j) (hjl : j ≤ es.length) (hs : j = 0 ∨ ∃ e, es[j - 1]? = some e ∧ e.c ≤ x.c) : j = cntE es x.c := by
 rcases hs with rfl | ⟨e, h1, h2⟩
 ·omega
 ·rcases Nat.lt_or_ge (cntE es x.c) j with h | h
  ·have := cntE_high hr (show cntE es x.c ≤ j - 1 by omega) h1
   have h3 := hno e (List.mem_of_getElem? h1)
   omega
  ·omega
theorem bub_go {es : List Eg} {x e : Eg} {i : Nat} (h1 : es[i]? = some e) (h2 : x.c < e.c) (hl : cntE es x.c ≤ i + 1) : cntE es x.c ≤ i := by
 rcases Nat.lt_or_ge i (cntE es x.c) with h | h
 ·have := cntE_low h h1; omega
 ·exact h
end Gno
namespace Go.Proofs.YtbbbeldbhlehnaaGreatDoor
open Go.RowKit Gno
theorem wpList_appo {P : Program} {ops : Array Oper} {rest : List Oper} {o : Oper} {a : Act} {Q : Exit → Act → World → Prop} {w : World} (hgd : o.guard = none) (s x : Operand) (t : TypeId)
 (ho : o.op = .call { callee := .builtin .append, args := #[s, x], argTypes := #[t, t] })
 (base : Nat) (e : TypeId) (z : Value) (size bytes : Nat) (ht : P.underlying t = some (.slice e)) (hinf : (P.info? e).map (fun i => (i.zero, i.size, i.bytes)) = some (some z, size, bytes))
 (hzs : z.cells.size = size) (hsz : 0 < size)
 (v : Value) (n : Nat) (xs : List Value) (hs : a.eval s = v) (hown : w.ownsRow base e size v n xs)
 (A : Option Addr) (m c : Nat) (news : List Value) (hx : a.eval x = .slice A m c) (hA : A = none → m = 0 ∧ c = 0) (hl : news.length = m * size) (hnews : ∀ ad, A = some ad → ∀ j u, news[j]? = some u → w.cell? (ad.add j) = some u) (h1 : ∀ u ∈ news, u.oneCell' = true)
 (h63 : n + m ≤ maxLen) (hbytes : (n + m) * bytes ≤ 140737488355328) (hbase : base ≤ w.heap.size)
 (h : ∀ v' w', w'.ownsRow base e size v' (n + m) (xs ++ news) → w.grownBy w' v.ownBlock → NearOr w v v' → wpList P ops Q rest (a.put o.dst v') w') : wpList P ops Q (o :: rest) a w := by
 obtain ⟨i, hi, hz, hsize, hby⟩ := info_parts hinf
 refine wpList_plain hgd fun K hK => ?_
 cases A with
 | none =>
   obtain ⟨rfl, rfl⟩ := hA rfl
   have hn : news = [] := List.eq_nil_of_length_eq_zero (by simpa using hl)
   subst hn
   have hrun := run_append_owned_none (P := P) (w := w) base t o.type e i size ht hi v n xs hown
   unfold Oper.wp
   simp [execOp, ho, resolve, invoke, builtin, hs, hx, hrun, Result.andThen]
   exact hK _ _ (h v w (by simpa using hown) (World.grownBy.refl w _) (.inl rfl))
 | some ad =>
   obtain ⟨v', w', hr, h2, h3, h4⟩ := run_append_at (P := P) w base t o.type e i z size bytes ht hi hz hsize hby hzs hsz v n xs hown ad m c news hl (hnews ad rfl) h1 h63 hbytes hbase
   unfold Oper.wp execOp
   simp only [ho, resolve, invoke, builtin, Sem.run_bind, Sem.run_pure, Result.andThen_ok, List.map_toArray, List.map_cons, List.map_nil, hs, hx, hr]
   exact hK _ _ (h v' w' h2 h3 h4)
theorem own_base {w : World} {B B2 : Nat} {e : TypeId} {sz n : Nat} {v : Value} {xs : List Value} (h : w.ownsRow B e sz v n xs) (hB : B2 ≤ B) : w.ownsRow B2 e sz v n xs := by
 refine ⟨h.1, ?_⟩
 rcases h.2 with h2 | ⟨g, cap, cur, e1, hb, hg, r⟩
 ·exact .inl h2
 ·exact .inr ⟨g, cap, cur, e1, Nat.le_trans hB hb, hg, r⟩
theorem own_news {w : World} {B : Nat} {e : TypeId} {sz n c : Nat} {A : Option Addr} {xs : List Value} (h : w.ownsRow B e sz (.slice A n c) n xs) : (A = none → n = 0 ∧ c = 0) ∧ ∀ ad, A = some ad → ∀ j u, xs[j]? = some u → w.cell? (ad.add j) = some u := by
 rcases h.2 with ⟨e1, e2⟩ | ⟨g, cap, cur, e1, _⟩
 ·injection e1 with e1 e3 e4
  exact ⟨fun _ => ⟨e3, e4⟩, fun ad had => by rw [e1] at had; cases had⟩
 ·injection e1 with e1 e3 e4
  refine ⟨fun hn => (by rw [hn] at e1; cases e1), fun ad had j u hj => ?_⟩
  have had2 := had
  rw [e1] at had2
  injection had2 with had2
  subst had2
  subst e1
  exact h.cells (g := g) rfl j u hj
end Go.Proofs.YtbbbeldbhlehnaaGreatDoor
end
section
namespace Gno
open Go
def findReg (k : Nat) : Code → Option Code
 | .region id ops b => if id = k then some (.region id ops b) else none
 | .loop c => findReg k c
 | .seq a b => match findReg k a with
   | some c => some c
   | none => findReg k b
 | .block _ c => findReg k c
 | .scope c => findReg k c
 | .cond _ a b => match findReg k a with
   | some c => some c
   | none => findReg k b
 | _ => none
end Gno
namespace Go.Proofs.YtbbbeldbhlehnaaGreatDoor
open Go.RowKit Gno
noncomputable def swapR : Code := ((Tryz.f34.body.bind (findReg 17)).getD .skip)
theorem new_second (W : World) (a b : Obj) : ((W.alloc a).alloc b).drew.heap[W.heap.size + 1]? = some b := by
 have h := World.alloc_heap_new (W.alloc a) b
 rw [show (W.alloc a).heap.size = W.heap.size + 1 from by simp] at h
 exact h
set_option maxRecDepth 100000 in
set_option maxHeartbeats 4000000 in
theorem swap_reg (g m cap jj j2 : Nat) (c1 c2 : Nat) (t1 t2 : Int) (W : World) (Q : Exit → Act → World → Prop) (s0 s1 s2 s3 s4 s5 s6 s7 s8 s11 s12 s13 s14 s15 s16 s17 s18 s19 s20 s21 s22 s23 s24 s25 s26 s27 s28 s29 s30 s31 s32 s33 s34 s35 s36 s37 s38 s39 s40 s41 s42 s43 s44 s45 s46 s47 s48 s49 s50 s51 s52 s53 s54 s55 s56 s57 s58 s59 s60 s61 s62 s63 s64 s65 s66 s67 s68 s69 s70 s71 s72 s73 s74 s75 s76 s77 s78 s79 s80 s81 s82 s83 s84 s85 s86 s87 s88 s89 s90 s91 s92 s93 s94 s95 s96 s97 s98 s99 s100 s101 s102 s103 s104 s105 s106 s107 s108 s109 s110 s111 s112 s113 s114 s115 s116 s117 s118 : Value)
 (hw : IntKind.i64.wrap ((jj : Int) - 1) = (j2 : Int)) (h1 : j2 < m) (h2 : jj < m)
 (e0 : W.cell? ⟨g, j2 * 2, none⟩ = some (.int .u8 c1)) (e1 : W.cell? ⟨g, j2 * 2 + 1, none⟩ = some (.int .i64 t1)) (e2 : W.cell? ⟨g, jj * 2, none⟩ = some (.int .u8 c2)) (e3 : W.cell? ⟨g, jj * 2 + 1, none⟩ = some (.int .i64 t2))
 (hQ : ∀ p q W', Below W.heap.size W W' → W'.heap[p]? = some (.cells #[.int .u8 c1, .int .i64 t1] 72 (0, 0)) → W'.heap[q]? = some (.cells #[.int .u8 c2, .int .i64 t2] 72 (0, 0)) → W.heap.size ≤ p → W.heap.size ≤ q →
  Q .normal ⟨#[s0, s1, s2, s3, s4, s5, s6, s7, s8, .slice (some ⟨g, 0, none⟩) m cap, .int .i64 jj, .pointer (some ⟨p, 0, none⟩), .pointer (some ⟨q, 0, none⟩), s13, s14, s15, s16, s17, s18, s19, s20, s21, s22, s23, s24, s25, s26, s27, s28, s29, s30, s31, s32, s33, s34, s35, s36, s37, s38, s39, s40, s41, s42, s43, s44, s45, s46, s47, s48, s49, s50, s51, s52, s53, s54, s55, s56, s57, s58, s59, s60, s61, s62, s63, s64, s65, s66, s67, s68, s69, s70, s71, s72, s73, s74, s75, s76, s77, s78, .slice (some ⟨g, 0, none⟩) m cap, .int .i64 jj, .int .i64 j2, .pointer (some ⟨g, j2 * 2, none⟩), .agg #[.int .u8 c1, .int .i64 t1], .slice (some ⟨g, 0, none⟩) m cap, .int .i64 jj, .pointer (some ⟨g, jj * 2, none⟩), .agg #[.int .u8 c2, .int .i64 t2], s88, s89, s90, s91, s92, s93, s94, s95, s96, s97, s98, s99, s100, s101, s102, s103, s104, s105, s106, s107, s108, s109, s110, s111, s112, s113, s114, s115, s116, s117, s118], []⟩ W') :
 swapR.wp Tryz.prog Q ⟨#[s0, s1, s2, s3, s4, s5, s6, s7, s8, .slice (some ⟨g, 0, none⟩) m cap, .int .i64 jj, s11, s12, s13, s14, s15, s16, s17, s18, s19, s20, s21, s22, s23, s24, s25, s26, s27, s28, s29, s30, s31, s32, s33, s34, s35, s36, s37, s38, s39, s40, s41, s42, s43, s44, s45, s46, s47, s48, s49, s50, s51, s52, s53, s54, s55, s56, s57, s58, s59, s60, s61, s62, s63, s64, s65, s66, s67, s68, s69, s70, s71, s72, s73, s74, s75, s76, s77, s78, s79, s80, s81, s82, s83, s84, s85, s86, s87, s88, s89, s90, s91, s92, s93, s94, s95, s96, s97, s98, s99, s100, s101, s102, s103, s104, s105, s106, s107, s108, s109, s110, s111, s112, s113, s114, s115, s116, s117, s118], []⟩ W := by
 have n0 : W.heap.size ≠ g := World.new_ne W _ e0
 have hgl : g < W.heap.size := World.block_lt_of_cell? W _ e0
 have i1 : (0 : Int) ≤ (j2 : Int) := Int.natCast_nonneg _
 have i2 : (j2 : Int) < (m : Int) := by omega
 have i3 : (0 : Int) ≤ (jj : Int) := Int.natCast_nonneg _
 have i4 : (jj : Int) < (m : Int) := by omega
 have HS4 : Hid (∀ V, Below W.heap.size W V → V.cell? ⟨g, j2 * 2, none⟩ = some (.int .u8 c1) ∧ V.cell? ⟨g, j2 * 2 + 1, none⟩ = some (.int .i64 t1) ∧ V.cell? ⟨g, jj * 2, none⟩ = some (.int .u8 c2) ∧ V.cell? ⟨g, jj * 2 + 1, none⟩ = some (.int .i64 t2)) := Lib.hid fun V h => ⟨(h.cell hgl).trans e0, (h.cell hgl).trans e1, (h.cell hgl).trans e2, (h.cell hgl).trans e3⟩
 have HQ := Lib.hid hQ
 clear hQ
 conv => arg 2; whnf
 go_region_held3 (fun w' => w'.cell? ⟨g, j2 * 2, none⟩ = some (.int .u8 c1) ∧ w'.cell? ⟨g, j2 * 2 + 1, none⟩ = some (.int .i64 t1) ∧ w'.cell? ⟨g, jj * 2, none⟩ = some (.int .u8 c2) ∧ w'.cell? ⟨g, jj * 2 + 1, none⟩ = some (.int .i64 t2)) ((refine HS4.out _ ?_; repeat (first | exact Below.refl _ _ | refine Below.drew ?_ | refine Below.alloc ?_ (by first | exact Nat.le_refl _ | simp) _ | refine Below.setCell ?_ (by first | exact Nat.le_refl _ | simp) _))) (fail)
 ·exact HQ.out _ _ _ (((Below.refl _ _).alloc (Nat.le_refl _) _).alloc (by simp) _).drew ((Below.heap_alloc _ _ _ (by simp)).trans (World.alloc_heap_new W _)) (new_second W _ _) (Nat.le_refl _) (Nat.le_succ _)
 ·exact HQ.out _ _ _ (((Below.refl _ _).alloc (Nat.le_refl _) _).alloc (by simp) _).drew (new_second W _ _) ((Below.heap_alloc _ _ _ (by simp)).trans (World.alloc_heap_new W _)) (Nat.le_succ _) (Nat.le_refl _)
end Go.Proofs.YtbbbeldbhlehnaaGreatDoor
end
section
namespace Go.Proofs.YtbbbeldbhlehnaaGreatDoor
open Go.RowKit Gno
set_option maxHeartbeats 16000000 in
set_option maxRecDepth 100000 in
theorem buildOf_ok (A : Option Addr) (n cap : Nat) (l : List ByteArray) (w : World) (hT : StrsAt w w.heap.size A n l) (h40 : n ≤ 40) (hbad : l.any wordBad = false) :
 Calls Tryz.prog 34 #[.slice A n cap] w (BuiltR w (buildL (bsL l)) fun v => v) := by
 have HT := Lib.hid hT
 have HN : Hid (l.length = n) := Lib.hid hT.1
 have HB : Hid (∀ s ∈ l, s.size ≤ 12) := Lib.hid fun s hs => by
  have h1 := List.any_eq_false.1 hbad s hs
  unfold wordBad at h1
  simp at h1
  omega
 obtain ⟨R, hR⟩ : ∃ R, R = buildL (bsL l) := ⟨_, rfl⟩
 have HR := Lib.hid hR
 rw [← hR]
 have hd40 : decide ((40 : Int) < (n : Int)) = false := decide_eq_false (by omega)
 clear hT hbad hR
 go_enter Tryz.func34, Tryz.ntmps34
 go_wp2_with fail
 go_loopw [3, 4] (fun s4 s20 wr => ∃ (k : Nat) (ps : List (Value × Nd)), k ≤ n ∧ s20 = .int .i64 k ∧ Hid (TOwn w.heap.size wr s4 ps) ∧ Hid (GoodT (ps.map (·.2)) ∧ R = buildF (ps.map (·.2)) k (bsL (l.drop k))) ∧ 0 < ps.length ∧ ps.length ≤ 1 + 12 * k ∧ Below w.heap.size w wr) (fun _ s20 _ => n - (intOf s20).toNat)
 case atStart => exact ⟨0, _, Nat.zero_le _, rfl, Lib.hid (TOwn.start w w.heap.size (Nat.le_refl _)), Lib.hid ⟨good_root, HR.out.trans (build_all l)⟩, by simp, by simp, (Below.refl _ _).alloc (Nat.le_refl _) _⟩
 case round =>
  obtain ⟨k, ps, hk, rfl, hO, hG, hp0, hpl, hb⟩ := hrel
  have hz := hb.size
  by_cases hlt : k < n
  ·obtain ⟨b, o, s, hA, hbB, hs, hss⟩ := strs_get HT.out hlt
   subst hA
   have HSS := Lib.hid hss
   have hs12 := HB.out s (List.mem_of_getElem? hs)
   have hG2 : Hid (GoodT (ps.map (·.2)) ∧ R = leftB l k s (ps.map (·.2)) 0 0) := Lib.hid ⟨hG.out.1, hG.out.2.trans (left_start hs _)⟩
   clear hs hss hG
   go_wp2
   go_loopw [3, 5, 6] (fun s4 s7 s27 wr => ∃ (i a : Nat) (ps : List (Value × Nd)), i ≤ s.size ∧ s27 = .int .i64 i ∧ s7 = .int .i64 a ∧ a < ps.length ∧ Hid (TOwn w.heap.size wr s4 ps) ∧ Hid (GoodT (ps.map (·.2)) ∧ R = leftB l k s (ps.map (·.2)) a i) ∧ ps.length ≤ 1 + 12 * k + i ∧ Below w.heap.size w wr) (fun _ _ s27 _ => s.size - (intOf s27).toNat)
   case atStart => exact ⟨0, 0, ps, Nat.zero_le _, rfl, rfl, hp0, hO, hG2, by omega, hb⟩
   case round =>
    clear hO hG2 hb hz hpl hp0
    clear ps
    obtain ⟨i, a, ps, hi, rfl, rfl, ha, hO, hG, hpl, hb⟩ := hrel
    have hz := hb.size
    obtain ⟨p, hp, hpm⟩ := map_get ha
    obtain ⟨g, cp, A2, c2, rfl, hgl, hpe, f0, f1, f2, f3⟩ := hO.out.node hp
    have HP := Lib.hid hp
    have HPM := Lib.hid hpm
    have hplen := good_len hG.out.1 hpm
    have HPE := Lib.hid hpe
    have e0 := HSS.out _ hb
    clear hp hpm
    by_cases hit : i < s.size
    ·have hc := bs_at s i hit
     have hc255 := byte_le s i hit
     obtain ⟨c, hcc⟩ : ∃ c, c = s[i].toNat := ⟨_, rfl⟩
     rw [← hcc] at hc hc255
     have HCC := Lib.hid hcc
     have hr := (hG.out.1 a p.2 HPM.out).1
     have hE : EdgesAt wr wr.heap.size A2 p.2.es.length p.2.es := edges_own (by have := hO.out.edge a p HP.out; rwa [HPE.out] at this) (by unfold maxLen; omega) (hO.out.small a p HP.out)
     have HRI := Lib.hid hr
     have HTo := Lib.hid (good_to hG.out.1 HPM.out c)
     obtain ⟨ml, hml⟩ : ∃ ml, ml = p.2.es.length := ⟨_, rfl⟩
     have HML := Lib.hid hml
     obtain ⟨wd, hwd⟩ : ∃ wd, wd = p.2.word := ⟨_, rfl⟩
     have HWD := Lib.hid hwd
     obtain ⟨J, hJ⟩ : ∃ J, J = edTo p.2.es c := ⟨_, rfl⟩
     have HF : Hid (Calls Tryz.prog 67 #[.agg #[.slice A2 ml c2, .int .i64 wd], .int .u8 s[i].toNat] wr fun e w' => e = .returned (.int .i64 J) ∧ Below wr.heap.size wr w') := Lib.hid (by rw [← hcc, hml, hwd, hJ]; exact edgeOf_any p.2 A2 c2 c wr hE)
     have HJ := Lib.hid hJ
     rw [← hJ] at HTo
     rw [← hml] at f0 hplen
     rw [← hwd] at f1
     obtain ⟨nn, hnn⟩ : ∃ nn, nn = ps.length := ⟨_, rfl⟩
     have HNN := Lib.hid hnn
     rw [← hnn] at ha hpl
     have HC := Lib.hid hc
     have HS2 : Hid (∀ V, Below wr.heap.size wr V → (V.cell? ⟨g, a * 2, none⟩ = some (.slice A2 ml c2) ∧ V.cell? ⟨g, a * 2 + 1, none⟩ = some (.int .i64 wd)) ∧ V.frozen? ⟨g, a * 2, none⟩ = false) := Lib.hid fun V hV => ⟨⟨(hV.cell hgl).trans f0, (hV.cell hgl).trans f1⟩, (hV.frozen (p := ⟨g, a * 2, none⟩) hgl).trans f2⟩
     clear hc hcc hr hE hml hwd f2 f3 hJ
     rw [← hnn]
     clear hnn
     by_cases hJ0 : 0 ≤ J
     ·obtain ⟨jn, rfl⟩ : ∃ jn : Nat, J = (jn : Int) := ⟨J.toNat, by omega⟩
      have hjl : jn < nn := by
       rcases HTo.out with ⟨q, h1, h2⟩ | ⟨h1, _⟩
       ·rw [HNN.out]; simp at h2; omega
       ·omega
      have HG2 : Hid (GoodT (ps.map (·.2)) ∧ R = leftB l k s (ps.map (·.2)) jn (i + 1)) := Lib.hid ⟨hG.out.1, hG.out.2.trans (left_yes HPM.out HC.out HJ.out.symm)⟩
      go_wp2_with (go_at_call 67; (with_reducible refine HF.out.mono ?_); rintro e w2 ⟨rfl, hb2⟩)
      have HO2 := Lib.hid (hO.out.kept (grown_of_below hb2))
      have hb3 := hb.trans (hb2.mono hz)
      go_roundw
      case rel => exact ⟨i + 1, jn, ps, by omega, by go_num, rfl, by rw [← HNN.out]; exact hjl, by rw [HNN.out]; exact HO2, HG2, by rw [← HNN.out]; omega, hb3⟩
      case measure => simp [intOf]; omega
     ·obtain ⟨hJ1, hno⟩ : J = -1 ∧ ∀ e ∈ p.2.es, e.c ≠ c := by
       rcases HTo.out with ⟨q, h1, h2⟩ | ⟨h1, h2⟩
       ·omega
       ·exact ⟨h1, h2⟩
      have HNO := Lib.hid hno
      clear hno hJ0
      subst hJ1
      go_upto_region 13 with (go_at_call 67; (with_reducible refine HF.out.mono ?_); rintro e w2 ⟨rfl, hb2⟩)
      have HO2 := Lib.hid (hO.out.kept (grown_of_below hb2))
      have hb3 := hb.trans (hb2.mono hz)
      have hz2 := hb2.size
      obtain ⟨z2, hzz⟩ : ∃ z2, z2 = w2.heap.size := ⟨_, rfl⟩
      have HZ2 := Lib.hid hzz
      obtain ⟨es, hes⟩ : ∃ es, es = p.2.es := ⟨_, rfl⟩
      have HES := Lib.hid hes
      have hel : es.length = ml := by rw [hes, HML.out]
      have hal : Below w2.heap.size w2 (w2.alloc (.cells #[] 72)) := (Below.refl _ _).alloc (Nat.le_refl _) _
      have hEA : (w2.alloc (.cells #[] 72)).ownsRow w.heap.size 72 2 (.slice A2 ml c2) ml (eds es) := by
       have h1 := (HO2.out.kept (grown_of_below hal)).edge a p HP.out
       rw [HPE.out, ← HML.out, ← hes] at h1
       exact h1
      have HEA := Lib.hid (own_news hEA)
      have HLE : Hid ((eds es).length = ml * 2) := Lib.hid (by rw [eds_len, hel])
      have HOA : Hid ((w2.alloc (.cells #[] 72)).ownsRow w2.heap.size 72 2 (.slice (some ⟨w2.heap.size, 0, none⟩) 0 0) 0 []) := Lib.hid ⟨rfl, .inr ⟨w2.heap.size, 0, _, rfl, Nat.le_refl _, World.alloc_heap_new w2 _, Nat.le_refl _, by unfold maxLen; omega, rfl, rfl⟩⟩
      obtain ⟨⟨q0, _⟩, _⟩ := HS2.out _ (hb2.trans (hal.mono hz2))
      obtain ⟨⟨q1, _⟩, _⟩ := HS2.out _ hb2
      clear hzz hes hEA
      go_upto_region 14 with (first
       | (at_builtin; refine wpList_appo rfl _ _ 68 rfl w2.heap.size 72 (.agg #[.int .u8 0, .int .i64 0]) 2 16 Tryz.underlying68 infoEdge rfl (by decide) _ 0 [] rfl HOA.out A2 ml c2 (eds es) rfl HEA.out.1 HLE.out HEA.out.2 eds_one (by unfold maxLen; omega) (by omega) hal.size ?_; intro vB wB hownB hgB hnB)
       | (at_builtin; go_must (refine wpList_app2 rfl _ _ 68 rfl w2.heap.size 72 (.agg #[.int .u8 0, .int .i64 0]) 2 16 Tryz.underlying68 infoEdge rfl (by decide) _ (0 + ml) ([] ++ eds es) rfl (hownB.alloc _) ⟨wB.heap.size, 0, none⟩ 1 1 [.int .u8 s[i].toNat, .int .i64 nn] rfl rfl (laid_at (cs := #[.int .u8 s[i].toNat, .int .i64 nn])) (by intro u hu; simp at hu; rcases hu with rfl | rfl <;> rfl) (by unfold maxLen; omega) (by omega) (by have := hgB.size; simp at this ⊢ <;> omega) ?_); intro vD wD hownD hgD hnD))
      have hgB2 : (w2.alloc (.cells #[] 72)).grownBy wB (Value.slice (some ⟨w2.heap.size, 0, none⟩) 0 0).ownBlock := hgB
      have hbB : Below w2.heap.size w2 wB := hal.grown hgB2 hal.size (fun k hk => (HOA.out.lt k hk).1)
      have hgD2 : (wB.alloc (.cells #[.int .u8 s[i].toNat, .int .i64 nn] 72)).grownBy wD vB.ownBlock := hgD
      have hbD : Below w2.heap.size w2 wD := (hbB.alloc hbB.size _).grown hgD2 (by have := hbB.size; simp at this ⊢ <;> omega) (fun k hk => (hownB.lt k hk).1)
      rw [Nat.zero_add, List.nil_append] at hownD
      obtain ⟨AD, cD, rfl, hfD⟩ := own_form hownD
      obtain ⟨g2, rfl, hgl2⟩ := hfD (by omega)
      have HWD0 : Hid (wD.ownsRow w2.heap.size 72 2 (.slice (some ⟨g2, 0, none⟩) (ml + 1) cD) (ml + 1) (eds (bub es ⟨c, nn⟩ ml))) := Lib.hid (by
       rw [← hel, bub_end, eds_app, hel, HCC.out]
       exact hownD)
      have HBD := Lib.hid hbD
      have hcl : cntE es c ≤ ml := hel ▸ cntE_le es c
      have hml9 : ml ≤ 256 := hplen
      have hes2 : p.2.es = es := HES.out.symm
      have HTAIL : Hid (∀ wq, wq.ownsRow w2.heap.size 72 2 (.slice (some ⟨g2, 0, none⟩) (ml + 1) cD) (ml + 1) (eds (insE es ⟨c, nn⟩)) → Below w2.heap.size w2 wq → TOwn w.heap.size (wq.setCell ⟨g, a * 2, none⟩ (.slice (some ⟨g2, 0, none⟩) (ml + 1) cD)) (.slice (some ⟨g, 0, none⟩) nn cp) (ps.set a (.slice (some ⟨g2, 0, none⟩) (ml + 1) cD, (⟨insE es ⟨c, nn⟩, wd⟩ : Nd))) ∧ Below w.heap.size w (wq.setCell ⟨g, a * 2, none⟩ (.slice (some ⟨g2, 0, none⟩) (ml + 1) cD))) := Lib.hid fun wq h1 h2 => by
       have hgw : w.heap.size ≤ g := (HO2.out.row.lt g rfl).1
       have hg2w : w2.heap.size ≤ g2 := (h1.lt g2 rfl).1
       have hsy : ∀ e ∈ insE es ⟨c, nn⟩, e.c ≤ 255 := fun e he => by
        rcases insE_mem.1 he with rfl | he
        ·exact hc255
        ·exact HO2.out.small a p HP.out e (hes2 ▸ he)
       obtain rfl := HNN.out
       rw [HWD.out]
       exact ⟨HO2.out.setEdges HP.out _ (insE es ⟨c, ps.length⟩) (by rw [insE_len, hel]; exact own_base h1 hb3.size) ((grown_of_below h2).but _) (.inr fun k hk => by simp [Value.ownBlock] at hk; omega) hsy, (hb3.trans (h2.mono hb3.size)).setCell hgw _⟩
      have HG5 : Hid (∀ v3, GoodT ((ps.set a (v3, (⟨insE es ⟨c, nn⟩, wd⟩ : Nd)) ++ [(Value.slice none 0 0, (⟨[], -1⟩ : Nd))]).map (·.2)) ∧ R = leftB l k s ((ps.set a (v3, (⟨insE es ⟨c, nn⟩, wd⟩ : Nd)) ++ [(Value.slice none 0 0, (⟨[], -1⟩ : Nd))]).map (·.2)) nn (i + 1)) := Lib.hid fun v3 => by
       have e1 : (ps.set a (v3, (⟨insE es ⟨c, nn⟩, wd⟩ : Nd)) ++ [(Value.slice none 0 0, (⟨[], -1⟩ : Nd))]).map (·.2) = (ps.map (·.2)).set a ⟨insE p.2.es ⟨c, (ps.map (·.2)).length⟩, p.2.word⟩ ++ [⟨[], -1⟩] := by
        rw [List.map_append, map_set, HWD.out, List.length_map, ← HNN.out, hes2]; rfl
       rw [e1]
       refine ⟨good_grow hG.out.1 HPM.out hc255 HNO.out, ?_⟩
       have := hG.out.2.trans (left_no HPM.out HC.out HJ.out.symm)
       rwa [List.length_map, ← HNN.out] at this ⊢
      clear hgB hgB2 hgD hgD2 hnB hnD hownD hownB hbB hbD hfD q0 q1 HOA HLE HEA hal HF e0
      go_wp2_with fail
      go_loopw [10] (fun s10 wr => ∃ (jj : Nat), jj ≤ ml ∧ s10 = .int .i64 jj ∧ Hid (wr.ownsRow w2.heap.size 72 2 (.slice (some ⟨g2, 0, none⟩) (ml + 1) cD) (ml + 1) (eds (bub es ⟨c, nn⟩ jj))) ∧ Hid (Below w2.heap.size w2 wr) ∧ cntE es c ≤ jj) (fun s10 _ => (intOf s10).toNat)
      case atStart => exact ⟨ml, Nat.le_refl _, by go_num, HWD0, HBD, hcl⟩
      case round =>
       obtain ⟨jj, hjj, rfl, HOW, HBW, hcj⟩ := hrel
       by_cases hj0 : jj = 0
       ·subst hj0
        go_wp2_with fail
        go_quiet (fail)
        have hjc : 0 = cntE es c := bub_stop (x := ⟨c, nn⟩) (hes2 ▸ HRI.out) (hes2 ▸ HNO.out) hcj (by omega) (.inl rfl)
        obtain ⟨wq, hwq⟩ : ∃ wq, wq = wr.drewN nq := ⟨_, rfl⟩
        have hbq : Below w2.heap.size w2 wq := by rw [hwq]; exact below_drewT HBW.out _
        have hoq : wq.ownsRow w2.heap.size 72 2 (.slice (some ⟨g2, 0, none⟩) (ml + 1) cD) (ml + 1) (eds (insE es ⟨c, nn⟩)) := by
         rw [← bub_ins (j := 0) (hes2 ▸ HRI.out) (hes2 ▸ HNO.out) hjc, hwq]
         exact HOW.out.kept (grown_of_below (below_drewT (Below.refl _ _) _)) (.inr (by simp [Value.ownBlock]))
        rw [← hwq]
        clear hwq HOW HBW hjc
        have HTL := Lib.hid (HTAIL.out wq hoq hbq)
        obtain ⟨⟨q0, _⟩, q1⟩ := HS2.out _ (hb2.trans (hbq.mono hz2))
        go_upto_region 21 with fail
        obtain ⟨wz, hwz⟩ : ∃ wz, wz = wq.setCell ⟨g, a * 2, none⟩ (.slice (some ⟨g2, 0, none⟩) (ml + 1) cD) := ⟨_, rfl⟩
        rw [← hwz] at HTL
        rw [← hwz]
        obtain ⟨HT4, HB4⟩ := HTL.out
        replace HT4 := Lib.hid HT4
        replace HB4 := Lib.hid HB4
        clear hwz q0 q1 hoq hbq HTL
        have HT5 : Hid (TOwn w.heap.size (wz.alloc (.cells #[.slice none 0 0, .int .i64 (-1)] 70)) (.slice (some ⟨g, 0, none⟩) nn cp) (ps.set a (.slice (some ⟨g2, 0, none⟩) (ml + 1) cD, (⟨insE es ⟨c, nn⟩, wd⟩ : Nd)))) := Lib.hid (HT4.out.kept (World.grownBy_alloc wz _ none))
        have HLS : Hid ((ps.set a (Value.slice (some ⟨g2, 0, none⟩) (ml + 1) cD, (⟨insE es ⟨c, nn⟩, wd⟩ : Nd))).length = nn) := Lib.hid (by rw [List.length_set, HNN.out])
        go_wp2_with (at_builtin; go_must (refine wpList_app2 rfl _ _ 65 rfl w.heap.size 70 (.agg #[.slice none 0 0, .int .i64 0]) 2 32 Tryz.underlying65 infoNode rfl (by decide) _ nn _ rfl (HLS.out ▸ HT5.out.row) ⟨wz.heap.size, 0, none⟩ 1 1 [.slice none 0 0, .int .i64 (-1)] rfl rfl (laid_at (cs := #[.slice none 0 0, .int .i64 (-1)])) (by intro u hu; simp at hu; rcases hu with rfl | rfl <;> rfl) (by unfold maxLen; omega) (by omega) (by have := HB4.out.size; simp at this ⊢ <;> omega) ?_); intro v' w4 hown4 hg4 hn4)
        obtain ⟨qs, hqs⟩ : ∃ qs, qs = ps.set a (.slice (some ⟨g2, 0, none⟩) (ml + 1) cD, (⟨insE es ⟨c, nn⟩, wd⟩ : Nd)) ++ [(Value.slice none 0 0, (⟨[], -1⟩ : Nd))] := ⟨_, rfl⟩
        have HT6 : Hid (TOwn w.heap.size w4 v' qs) := Lib.hid (by rw [hqs]; exact HT5.out.push (by rw [HLS.out]; exact hown4) hg4 hn4)
        have HB6 : Hid (Below w.heap.size w w4) := Lib.hid ((HB4.out.alloc HB4.out.size _).grown hg4 (by have := HB4.out.size; simp at this ⊢ <;> omega) (fun k hk => (HT5.out.row.lt k hk).1))
        have HQL : Hid (qs.length = nn + 1) := Lib.hid (by rw [hqs, List.length_append, HLS.out]; rfl)
        have HG6 : Hid (GoodT (qs.map (·.2)) ∧ R = leftB l k s (qs.map (·.2)) nn (i + 1)) := Lib.hid (by rw [hqs]; exact HG5.out _)
        clear hqs
        go_roundw
        case rel => exact ⟨i + 1, nn, qs, by omega, by go_num, rfl, by rw [HQL.out]; omega, HT6, HG6, by rw [HQL.out]; omega, HB6.out⟩
        case measure => simp [intOf]; omega
       ·obtain ⟨j2, hj2⟩ : ∃ j2, jj = j2 + 1 := ⟨jj - 1, by omega⟩
        obtain ⟨e, he⟩ : ∃ e, es[j2]? = some e := ⟨es[j2]'(by omega), List.getElem?_eq_getElem _⟩
        obtain ⟨be1, be2⟩ := bub_get (x := ⟨c, nn⟩) he
        rw [← hj2] at be1 be2
        have ow := HOW.out
        obtain ⟨x0, x1⟩ := eds_get _ _ _ be1
        obtain ⟨y0, y1⟩ := eds_get _ _ _ be2
        have c0 := own_cell ow x0
        have c1 := own_cell ow x1
        have c2' := own_cell ow y0
        have c3 := own_cell ow y1
        simp only at c0 c1 c2' c3
        clear x0 x1 y0 y1 be1 be2 ow
        have hw1 : wrap64 ((jj : Int) - 1) = (j2 : Int) := by unfold wrap64; omega
        have hw4 : IntKind.i64.wrap ((jj : Int) - 1) = (j2 : Int) := by rw [IntKind.wrap_i64]; omega
        have hi1 : j2 < ml + 1 := by omega
        have hi2 : jj < ml + 1 := by omega
        have hjp : 0 < jj := by omega
        have hjd : decide (0 < jj) = true := decide_eq_true hjp
        have hjd2 : decide ((0 : Int) < (jj : Int)) = true := decide_eq_true (by omega)
        have HJJ := Lib.hid hj2
        clear hj2
        by_cases hce : c < e.c
        ·have hcd := decide_eq_true hce
         go_wp2_with fail
         go_quiet (fail)
         obtain ⟨wq, hwq⟩ : ∃ wq, wq = wr.drewN nq := ⟨_, rfl⟩
         have hbq : Below w2.heap.size w2 wq := by rw [hwq]; exact below_drewT HBW.out _
         have hoq : wq.ownsRow w2.heap.size 72 2 (.slice (some ⟨g2, 0, none⟩) (ml + 1) cD) (ml + 1) (eds (bub es ⟨c, nn⟩ jj)) := by
          rw [hwq]
          exact HOW.out.kept (grown_of_below (below_drewT (Below.refl _ _) _)) (.inr (by simp [Value.ownBlock]))
         rw [← hwq]
         clear hwq HOW HBW c0 c1 c2' c3
         obtain ⟨be1, be2⟩ := bub_get (x := ⟨c, nn⟩) he
         rw [← HJJ.out] at be1 be2
         obtain ⟨x0, x1⟩ := eds_get _ _ _ be1
         obtain ⟨y0, y1⟩ := eds_get _ _ _ be2
         have c0 := own_cell hoq x0
         have c1 := own_cell hoq x1
         have c2' := own_cell hoq y0
         have c3 := own_cell hoq y1
         simp only at c0 c1 c2' c3
         have HOQ := Lib.hid hoq
         have HBQ := Lib.hid hbq
         clear hoq hbq x0 x1 y0 y1 be1 be2
         go_wp2_with fail
         refine swap_reg _ _ _ _ _ _ _ _ _ _ _ _ _ _ _ _ _ _ _ _ _ _ _ _ _ _ _ _ _ _ _ _ _ _ _ _ _ _ _ _ _ _ _ _ _ _ _ _ _ _ _ _ _ _ _ _ _ _ _ _ _ _ _ _ _ _ _ _ _ _ _ _ _ _ _ _ _ _ _ _ _ _ _ _ _ _ _ _ _ _ _ _ _ _ _ _ _ _ _ _ _ _ _ _ _ _ _ _ _ _ _ _ _ _ _ _ _ _ _ _ _ _ _ _ _ _ _ _ hw4 hi1 hi2 c0 c1 c2' c3 ?_
         intro p q wx hbx hp hq hzp hzq
         have hgl3 : g2 < wq.heap.size := World.block_lt_of_cell? wq _ c0
         have hoq : wx.ownsRow w2.heap.size 72 2 (.slice (some ⟨g2, 0, none⟩) (ml + 1) cD) (ml + 1) (eds (bub es ⟨c, nn⟩ jj)) := HOQ.out.kept (grown_of_below hbx) (.inr (by simp [Value.ownBlock]))
         have hbq : Below w2.heap.size w2 wx := HBQ.out.trans (hbx.mono HBQ.out.size)
         clear c0 c1 c2' c3 HOQ HBQ hbx
         obtain ⟨be1, be2⟩ := bub_get (x := ⟨c, nn⟩) he
         rw [← HJJ.out] at be1 be2
         obtain ⟨y0, y1⟩ := eds_get _ _ _ be2
         have c2' := own_cell hoq y0
         have c3 := own_cell hoq y1
         obtain ⟨x0, x1⟩ := eds_get _ _ _ be1
         have c0 := own_cell hoq x0
         have c1 := own_cell hoq x1
         simp only at c0 c1 c2' c3
         have z0 := own_free hoq (j2 * 2)
         have z1 := own_free hoq (j2 * 2 + 1)
         have o1 := own_setCell hoq (j2 * 2) (by omega) (.int .u8 c)
         have o2 := own_setCell o1 (j2 * 2 + 1) (by omega) (.int .i64 nn)
         have o3 := own_setCell o2 (jj * 2) (by omega) (.int .u8 e.c)
         have o4 := own_setCell o3 (jj * 2 + 1) (by omega) (.int .i64 e.to)
         have hg2w : w2.heap.size ≤ g2 := (hoq.lt g2 rfl).1
         rw [eds_set _ _ ⟨c, nn⟩ _ be1] at o2 o3 o4
         rw [eds_set _ _ e ⟨c, nn⟩ (by rw [List.getElem?_set_ne (by have := HJJ.out; omega)]; exact be2), show ((bub es ⟨c, nn⟩ jj).set j2 ⟨c, nn⟩).set jj e = bub es ⟨c, nn⟩ j2 from by rw [HJJ.out]; exact bub_swap he] at o4
         have v0 := own_free o2 (jj * 2)
         have v1 := own_free o2 (jj * 2 + 1)
         obtain ⟨u2, k2⟩ : ∃ u, ((wx.setCell ⟨g2, j2 * 2, none⟩ (.int .u8 c)).setCell ⟨g2, j2 * 2 + 1, none⟩ (.int .i64 nn)).cell? ⟨g2, jj * 2, none⟩ = some u := ⟨_, own_cell o2 (eds_get _ _ ⟨c, nn⟩ (by rw [List.getElem?_set_ne (by have := HJJ.out; omega)]; exact be2)).1⟩
         obtain ⟨u3, k3⟩ : ∃ u, ((wx.setCell ⟨g2, j2 * 2, none⟩ (.int .u8 c)).setCell ⟨g2, j2 * 2 + 1, none⟩ (.int .i64 nn)).cell? ⟨g2, jj * 2 + 1, none⟩ = some u := ⟨_, own_cell o2 (eds_get _ _ ⟨c, nn⟩ (by rw [List.getElem?_set_ne (by have := HJJ.out; omega)]; exact be2)).2⟩
         have HO4 := Lib.hid o4
         have HB4 : Hid (Below w2.heap.size w2 ((((wx.setCell ⟨g2, j2 * 2, none⟩ (.int .u8 c)).setCell ⟨g2, j2 * 2 + 1, none⟩ (.int .i64 nn)).setCell ⟨g2, jj * 2, none⟩ (.int .u8 e.c)).setCell ⟨g2, jj * 2 + 1, none⟩ (.int .i64 e.to))) := Lib.hid ((((hbq.setCell (p := ⟨g2, j2 * 2, none⟩) hg2w _).setCell (p := ⟨g2, j2 * 2 + 1, none⟩) hg2w _).setCell (p := ⟨g2, jj * 2, none⟩) hg2w _).setCell (p := ⟨g2, jj * 2 + 1, none⟩) hg2w _)
         have hcj2 := bub_go (x := ⟨c, nn⟩) he hce (HJJ.out ▸ hcj)
         have q0' : wx.cell? ⟨q, 0, none⟩ = some (.int .u8 c) := by simp [World.cell?, hq]
         have q1' : wx.cell? ⟨q, 1, none⟩ = some (.int .i64 nn) := by simp [World.cell?, hq]
         have p0' : ((wx.setCell ⟨g2, j2 * 2, none⟩ (.int .u8 c)).setCell ⟨g2, j2 * 2 + 1, none⟩ (.int .i64 nn)).cell? ⟨p, 0, none⟩ = some (.int .u8 e.c) := by
          rw [World.cell?_setCell_other _ _ _ _ (by first | (simp; done) | (simp; omega)), World.cell?_setCell_other _ _ _ _ (by first | (simp; done) | (simp; omega))]; simp [World.cell?, hp]
         have p1' : ((wx.setCell ⟨g2, j2 * 2, none⟩ (.int .u8 c)).setCell ⟨g2, j2 * 2 + 1, none⟩ (.int .i64 nn)).cell? ⟨p, 1, none⟩ = some (.int .i64 e.to) := by
          rw [World.cell?_setCell_other _ _ _ _ (by first | (simp; done) | (simp; omega)), World.cell?_setCell_other _ _ _ _ (by first | (simp; done) | (simp; omega))]; simp [World.cell?, hp]
         clear o1 o2 o3 o4 hoq x0 x1 y0 y1 be1 be2 hbq hp hq
         go_wp2_with fail
         go_roundw
         case rel => exact ⟨j2, by omega, by go_num, HO4, HB4, hcj2⟩
         case measure =>
          have h9 := HJJ.out
          simp [intOf]; omega
        ·have hcd := decide_eq_false hce
         go_wp2_with fail
         go_quiet (fail)
         have hjc : jj = cntE es c := bub_stop (x := ⟨c, nn⟩) (hes2 ▸ HRI.out) (hes2 ▸ HNO.out) hcj (by omega) (.inr ⟨e, by rw [HJJ.out]; simpa using he, by simp; omega⟩)
         obtain ⟨wq, hwq⟩ : ∃ wq, wq = wr.drewN nq := ⟨_, rfl⟩
         have hbq : Below w2.heap.size w2 wq := by rw [hwq]; exact below_drewT HBW.out _
         have hoq : wq.ownsRow w2.heap.size 72 2 (.slice (some ⟨g2, 0, none⟩) (ml + 1) cD) (ml + 1) (eds (insE es ⟨c, nn⟩)) := by
          rw [← bub_ins (j := jj) (hes2 ▸ HRI.out) (hes2 ▸ HNO.out) hjc, hwq]
          exact HOW.out.kept (grown_of_below (below_drewT (Below.refl _ _) _)) (.inr (by simp [Value.ownBlock]))
         rw [← hwq]
         clear hwq HOW HBW hjc
         have HTL := Lib.hid (HTAIL.out wq hoq hbq)
         obtain ⟨⟨q0, _⟩, q1⟩ := HS2.out _ (hb2.trans (hbq.mono hz2))
         go_upto_region 21 with fail
         obtain ⟨wz, hwz⟩ : ∃ wz, wz = wq.setCell ⟨g, a * 2, none⟩ (.slice (some ⟨g2, 0, none⟩) (ml + 1) cD) := ⟨_, rfl⟩
         rw [← hwz] at HTL
         rw [← hwz]
         obtain ⟨HT4, HB4⟩ := HTL.out
         replace HT4 := Lib.hid HT4
         replace HB4 := Lib.hid HB4
         clear hwz q0 q1 hoq hbq HTL
         have HT5 : Hid (TOwn w.heap.size (wz.alloc (.cells #[.slice none 0 0, .int .i64 (-1)] 70)) (.slice (some ⟨g, 0, none⟩) nn cp) (ps.set a (.slice (some ⟨g2, 0, none⟩) (ml + 1) cD, (⟨insE es ⟨c, nn⟩, wd⟩ : Nd)))) := Lib.hid (HT4.out.kept (World.grownBy_alloc wz _ none))
         have HLS : Hid ((ps.set a (Value.slice (some ⟨g2, 0, none⟩) (ml + 1) cD, (⟨insE es ⟨c, nn⟩, wd⟩ : Nd))).length = nn) := Lib.hid (by rw [List.length_set, HNN.out])
         go_wp2_with (at_builtin; go_must (refine wpList_app2 rfl _ _ 65 rfl w.heap.size 70 (.agg #[.slice none 0 0, .int .i64 0]) 2 32 Tryz.underlying65 infoNode rfl (by decide) _ nn _ rfl (HLS.out ▸ HT5.out.row) ⟨wz.heap.size, 0, none⟩ 1 1 [.slice none 0 0, .int .i64 (-1)] rfl rfl (laid_at (cs := #[.slice none 0 0, .int .i64 (-1)])) (by intro u hu; simp at hu; rcases hu with rfl | rfl <;> rfl) (by unfold maxLen; omega) (by omega) (by have := HB4.out.size; simp at this ⊢ <;> omega) ?_); intro v' w4 hown4 hg4 hn4)
         obtain ⟨qs, hqs⟩ : ∃ qs, qs = ps.set a (.slice (some ⟨g2, 0, none⟩) (ml + 1) cD, (⟨insE es ⟨c, nn⟩, wd⟩ : Nd)) ++ [(Value.slice none 0 0, (⟨[], -1⟩ : Nd))] := ⟨_, rfl⟩
         have HT6 : Hid (TOwn w.heap.size w4 v' qs) := Lib.hid (by rw [hqs]; exact HT5.out.push (by rw [HLS.out]; exact hown4) hg4 hn4)
         have HB6 : Hid (Below w.heap.size w w4) := Lib.hid ((HB4.out.alloc HB4.out.size _).grown hg4 (by have := HB4.out.size; simp at this ⊢ <;> omega) (fun k hk => (HT5.out.row.lt k hk).1))
         have HQL : Hid (qs.length = nn + 1) := Lib.hid (by rw [hqs, List.length_append, HLS.out]; rfl)
         have HG6 : Hid (GoodT (qs.map (·.2)) ∧ R = leftB l k s (qs.map (·.2)) nn (i + 1)) := Lib.hid (by rw [hqs]; exact HG5.out _)
         clear hqs
         go_roundw
         case rel => exact ⟨i + 1, nn, qs, by omega, by go_num, rfl, by rw [HQL.out]; omega, HT6, HG6, by rw [HQL.out]; omega, HB6.out⟩
         case measure => simp [intOf]; omega
    ·have hL : R = buildF (markT (ps.map (·.2)) a k) (k + 1) (bsL (l.drop (k + 1))) := hG.out.2.trans (left_end (by omega))
     have hgB : w.heap.size ≤ g := (hO.out.row.lt g rfl).1
     by_cases hw0 : p.2.word < 0
     ·have hM := mark_yes (k := k) HPM.out hw0
      have HG9 : Hid (GoodT ((ps.set a (p.1, (⟨p.2.es, k⟩ : Nd))).map (·.2)) ∧ R = buildF ((ps.set a (p.1, (⟨p.2.es, k⟩ : Nd))).map (·.2)) (k + 1) (bsL (l.drop (k + 1)))) := Lib.hid (by
       rw [map_set, ← hM]
       exact ⟨good_mark hG.out.1 a k, hL⟩)
      have HT9 : Hid (TOwn w.heap.size (wr.setCell ⟨g, a * 2 + 1, none⟩ (.int .i64 k)) (.slice (some ⟨g, 0, none⟩) ps.length cp) (ps.set a (p.1, ⟨p.2.es, k⟩))) := Lib.hid (hO.out.setWord HP.out k)
      have HB9 : Hid (Below w.heap.size w (wr.setCell ⟨g, a * 2 + 1, none⟩ (.int .i64 k))) := Lib.hid (hb.setCell hgB _)
      have HLS : Hid ((ps.set a (p.1, (⟨p.2.es, k⟩ : Nd))).length = ps.length) := Lib.hid (by rw [List.length_set])
      have hd0 : decide (p.2.word < 0) = true := decide_eq_true hw0
      clear hL hM hG hO
      go_wp2
      go_roundw
      case rel => exact ⟨k + 1, _, by omega, by go_num, HT9, HG9, by rw [HLS.out]; omega, by rw [HLS.out]; omega, HB9.out⟩
      case measure => simp [intOf]; omega
     ·have hM := mark_no (k := k) HPM.out hw0
      have HG9 : Hid (GoodT (ps.map (·.2)) ∧ R = buildF (ps.map (·.2)) (k + 1) (bsL (l.drop (k + 1)))) := Lib.hid (by
       refine ⟨hG.out.1, ?_⟩
       rw [← hM]
       exact hL)
      have hd0 : decide (p.2.word < 0) = false := decide_eq_false hw0
      clear hL hM hG
      go_wp2
      go_roundw
      case rel => exact ⟨k + 1, ps, by omega, by go_num, hO, HG9, by omega, by omega, hb⟩
      case measure => simp [intOf]; omega
  ·have hk2 : k = n := by omega
   subst hk2
   have hL : R = ps.map (·.2) := by rw [hG.out.2, List.drop_eq_nil_of_le (by rw [HN.out]; exact Nat.le_refl _)]; rfl
   go_wp2
   go_ret
   exact ⟨_, ps, rfl, hO.out, hG.out.1, by first | rfl | exact hL.symm, by omega, hb⟩
end Go.Proofs.YtbbbeldbhlehnaaGreatDoor
end
section
namespace Go.Proofs.YtbbbeldbhlehnaaGreatDoor
open Go.RowKit Gno
end Go.Proofs.YtbbbeldbhlehnaaGreatDoor
end
section
namespace Go.Proofs.YtbbbeldbhlehnaaGreatDoor
open Go.RowKit Gno
theorem strs_nextB {w W : World} {A : Option Addr} {n : Nat} {l : List ByteArray} (h : StrsAt w w.heap.size A n l) (hb : Below w.heap.size w W) : StrsAt W W.heap.size A n l := (h.below hb (Nat.le_refl _)).more hb.size
theorem buildOf_n (A : Option Addr) (n cap : Nat) (l : List ByteArray) (w : World) (hT : StrsAt w w.heap.size A n l) (hE : wordsE l = 0) :
 Calls Tryz.prog 34 #[.slice A n cap] w (BuiltN w (buildL (bsL l)) fun v => v) := by
 have hl := hT.1
 unfold wordsE at hE
 by_cases h40 : 40 < n
 ·rw [if_pos (by omega)] at hE; cases hE
 ·rw [if_neg (by omega)] at hE
  cases hb : l.any wordBad
  ·exact (buildOf_ok A n cap l w hT (by omega) hb).mono fun e w' h => built_n h
  ·rw [hb, if_pos rfl] at hE; cases hE
end Go.Proofs.YtbbbeldbhlehnaaGreatDoor
end
section
set_option maxRecDepth 100000
namespace Gno
open Go Go.RowKit Go.Proofs.YtbbbeldbhlehnaaGreatDoor
def isPre (s x : ByteArray) : Prop := x.size ≤ s.size ∧ s.extract 0 x.size = x
open Classical in
noncomputable def bestF (s : ByteArray) : List ByteArray → Nat → Nat
 | [], b => b
 | x :: r, b => bestF s r (if isPre s x then max b x.size else b)
open Classical in
noncomputable def firF (s : ByteArray) : List ByteArray → Nat → Int → Int
 | [], _, f => f
 | x :: r, k, f => firF s r (k + 1) (if x = s ∧ f < 0 then k else f)
theorem lgN_spec (t : List Nd) (u : List Nat) : ∀ m, lgN t u m ≤ m ∧ (lgN t u m = 0 ∨ 0 ≤ findK t (u.take (lgN t u m))) ∧ ∀ j, j ≤ m → 0 ≤ findK t (u.take j) → j ≤ lgN t u m
 | 0 => ⟨Nat.le_refl _, .inl rfl, fun j h _ => h⟩
 | m + 1 => by
   unfold lgN
   by_cases h : 0 ≤ findK t (u.take (m + 1))
   ·rw [if_pos h]
    exact ⟨Nat.le_refl _, .inr h, fun j h _ => h⟩
   ·rw [if_neg h]
    obtain ⟨h1, h2, h3⟩ := lgN_spec t u m
    refine ⟨by omega, h2, fun j hj hp => ?_⟩
    by_cases e : j = m + 1
    ·rw [e] at hp; exact absurd hp h
    ·exact h3 j (by omega) hp
theorem lgK_spec (t : List Nd) (u : List Nat) : ∀ m, lgK t u m = if 0 ≤ findK t (u.take (lgN t u m)) then findK t (u.take (lgN t u m)) else -1
 | 0 => rfl
 | m + 1 => by
   unfold lgK lgN
   by_cases h : 0 ≤ findK t (u.take (m + 1))
   ·rw [if_pos h, if_pos h, if_pos h]
   ·rw [if_neg h, if_neg h]; exact lgK_spec t u m
theorem bsL_mem {l : List ByteArray} {q : List Nat} : q ∈ bsL l ↔ ∃ x ∈ l, bs x = q := by unfold bsL; exact List.mem_map
theorem bsL_get {l : List ByteArray} {i : Nat} {q : List Nat} (h : (bsL l)[i]? = some q) : ∃ x, l[i]? = some x ∧ bs x = q := by
 unfold bsL at h
 rw [List.getElem?_map] at h
 cases hx : l[i]? with
 | none => rw [hx] at h; cases h
 | some x => rw [hx] at h; exact ⟨x, rfl, by simpa using h⟩
theorem lgK_word {l : List ByteArray} {s : ByteArray} (h : 0 ≤ lgK (buildL (bsL l)) (bs s) s.size) : l[(lgK (buildL (bsL l)) (bs s) s.size).toNat]? = some (s.extract 0 (lgN (buildL (bsL l)) (bs s) s.size)) := by
 rw [lgK_spec, buildL_find] at h ⊢
 split at h
 ·rename_i h0
  rw [if_pos h0]
  obtain ⟨x, h1, h2⟩ := bsL_get (ixF_at _ _ h0)
  rw [h1, bs_inj (h2.trans (bs_take s _).symm)]
 ·omega
theorem lgK_lt (l : List ByteArray) (s : ByteArray) : -1 ≤ lgK (buildL (bsL l)) (bs s) s.size ∧ lgK (buildL (bsL l)) (bs s) s.size < l.length := by
 rw [lgK_spec, buildL_find]
 have := ixF_ge (bsL l) ((bs s).take (lgN (buildL (bsL l)) (bs s) s.size))
 have hl : (bsL l).length = l.length := by unfold bsL; simp
 split <;> omega
theorem words_ok {l : List ByteArray} (h : wordsE l = 0) : l.length ≤ 40 ∧ ∀ s ∈ l, 0 < s.size ∧ s.size ≤ 12 := by
 unfold wordsE at h
 split at h
 ·cases h
 ·refine ⟨by omega, fun s hs => ?_⟩
  split at h
  ·cases h
  ·rename_i hb
   have h1 := List.any_eq_false.1 (Bool.not_eq_true _ ▸ hb) s hs
   unfold wordBad at h1
   simp at h1
   have : s.size ≠ 0 := fun e => h1.1 (by simpa using e)
   omega
theorem lgK_neg {l : List ByteArray} (hw : wordsE l = 0) (s : ByteArray) : lgK (buildL (bsL l)) (bs s) s.size < 0 ↔ lgN (buildL (bsL l)) (bs s) s.size = 0 := by
 obtain ⟨h1, h2, h3⟩ := lgN_spec (buildL (bsL l)) (bs s) s.size
 constructor
 ·intro h
  rcases h2 with h2 | h2
  ·exact h2
  ·rw [lgK_spec, if_pos h2] at h; omega
 ·intro h
  rw [lgK_spec, h, if_neg (by
   rw [buildL_find, ixF_mem, bsL_mem]
   rintro ⟨x, hx, he⟩
   have := (words_ok hw).2 x hx
   rw [← bs_len, he] at this
   simp at this)]
  omega
end Gno
end
section
set_option maxRecDepth 100000
namespace Gno
open Go Go.RowKit Go.Proofs.YtbbbeldbhlehnaaGreatDoor
theorem far_built {l : List ByteArray} (hw : wordsE l = 0) {u : List Nat} {m : Nat} (h : Far (buildL (bsL l)) u m) : m ≤ 12 := by
 obtain ⟨P, hP, hm, _⟩ := buildL_inv (bsL l)
 have h1 := h.2.1 m (Nat.le_refl _)
 have h0 : P[0]? = some [] := hP.zero
 rcases hP.go (u.take m) h0 with ⟨j, hj, _⟩ | ⟨_, hn⟩
 ·have hmem : u.take m ∈ P := List.mem_of_getElem? (by simpa using hj)
  have hl : (u.take m).length = m := by rw [List.length_take]; have := h.1; omega
  rcases (hm _).1 hmem with he | ⟨w, hw2, hp⟩
  ·rw [he] at hl; simp at hl; omega
  ·obtain ⟨x, hx, rfl⟩ := bsL_mem.1 hw2
   have := hp.length_le
   rw [bs_len, hl] at this
   have := ((words_ok hw).2 x hx).2
   omega
 ·rw [show ((0 : Nat) : Int) = 0 from rfl] at hn
  omega
end Gno
namespace Go.Proofs.YtbbbeldbhlehnaaGreatDoor
open Go.RowKit Gno
theorem longW_any {l : List ByteArray} (hw : wordsE l = 0) (A : Option Addr) (n cap : Nat) (s : ByteArray) (w : World) (hT : NodesAt w w.heap.size A n (buildL (bsL l))) :
 Calls Tryz.prog 60 #[.slice A n cap, .string s] w fun e w' => e = .returned (.tuple #[.int .i64 (lgK (buildL (bsL l)) (bs s) s.size), .int .i64 (lgN (buildL (bsL l)) (bs s) s.size), .int .i64 0]) ∧ Below w.heap.size w w' := by
 obtain ⟨m, hm⟩ := far_exists (t := buildL (bsL l)) (bs s)
 exact longT_ok _ A n cap s m (by have := far_built hw hm; omega) w hT (buildL_ok _) hm
end Go.Proofs.YtbbbeldbhlehnaaGreatDoor
namespace Gno
open Go Go.RowKit Go.Proofs.YtbbbeldbhlehnaaGreatDoor
def sumF : List ByteArray → Nat → Nat
 | [], a => a
 | x :: r, a => sumF r (a + x.size)
end Gno
end
