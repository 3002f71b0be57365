/- Tries: Build. -/
import Derived.Test.YtggepbkhhnhnkaaTrS
import Derived.Deep.AppendLies
set_option linter.unusedVariables false
set_option linter.unusedSimpArgs false
namespace Gno
open Go Go.RowKit Go.Proofs.Ytggepbkhhnhnkaa
theorem map_get {ps : List (Value × Nd)} {a : Nat} (h : a < ps.length) : ∃ p, ps[a]? = some p ∧ (ps.map (·.2))[a]? = some p.2 := ⟨ps[a], List.getElem?_eq_getElem h, by rw [List.getElem?_map, List.getElem?_eq_getElem h]; rfl⟩
theorem map_set (ps : List (Value × Nd)) (a : Nat) (q : Value × Nd) : (ps.set a q).map (·.2) = (ps.map (·.2)).set a q.2 := List.map_set
/-- what is left to be built, from a byte on. -/
def leftB (l : List ByteArray) (k : Nat) (s : ByteArray) (t : List Nd) (a i : Nat) : List Nd := buildF (markT (goBT t a ((bs s).drop i)) (goBA t a ((bs s).drop i)) k) (k + 1) (bsL (l.drop (k + 1)))
theorem left_start {l : List ByteArray} {k : Nat} {s : ByteArray} (h : l[k]? = some s) (t : List Nd) : buildF t k (bsL (l.drop k)) = leftB l k s t 0 0 := by
  rw [drop_at h]; rfl
theorem left_yes {l : List ByteArray} {k : Nat} {s : ByteArray} {t : List Nd} {a i c j : Nat} {n : Nd} (hn : t[a]? = some n) (hc : (bs s)[i]? = some c) (h : edTo n.es c = (j : Int)) : leftB l k s t a i = leftB l k s t j (i + 1) := by
  unfold leftB
  rw [(goB_at hc).1, (goB_at hc).2, (step_yes hn h).1, (step_yes hn h).2]
theorem left_no {l : List ByteArray} {k : Nat} {s : ByteArray} {t : List Nd} {a i c : Nat} {n : Nd} (hn : t[a]? = some n) (hc : (bs s)[i]? = some c) (h : edTo n.es c = -1) : leftB l k s t a i = leftB l k s (t.set a ⟨insE n.es ⟨c, t.length⟩, n.word⟩ ++ [⟨[], -1⟩]) t.length (i + 1) := by
  unfold leftB
  rw [(goB_at hc).1, (goB_at hc).2, (step_no hn h).1, (step_no hn h).2]
theorem left_end {l : List ByteArray} {k : Nat} {s : ByteArray} {t : List Nd} {a i : Nat} (h : s.size ≤ i) : leftB l k s t a i = buildF (markT t a k) (k + 1) (bsL (l.drop (k + 1))) := by
  unfold leftB
  rw [List.drop_eq_nil_of_le (by rw [bs_len]; exact h)]
  rfl
theorem mark_yes {t : List Nd} {a k : Nat} {n : Nd} (hn : t[a]? = some n) (h : n.word < 0) : markT t a k = t.set a ⟨n.es, k⟩ := by
  unfold markT; rw [ndAt_of hn, if_pos h]
theorem mark_no {t : List Nd} {a k : Nat} {n : Nd} (hn : t[a]? = some n) (h : ¬ n.word < 0) : markT t a k = t := by
  unfold markT; rw [ndAt_of hn, if_neg h]
theorem build_all (l : List ByteArray) : buildL (bsL l) = buildF root 0 (bsL (l.drop 0)) := rfl
/-- between two bytes of a word: the trie so far. -/
structure BuildI (l : List ByteArray) (B : Nat) (R : List Nd) (k : Nat) (s : ByteArray) (a i : Nat) (v : Value) (ps : List (Value × Nd)) (w : World) : Prop where
  own : TOwn B w v ps
  good : GoodT (ps.map (·.2))
  left : R = leftB l k s (ps.map (·.2)) a i
end Gno
namespace Go.Proofs.Ytggepbkhhnhnkaa
open Go.RowKit Gno
theorem own_node {B : Nat} {w : World} {v : Value} {qs : List (Value × Nd)} {a n c : Nat} {A : Option Addr} {ys : List Eg} {wd : Int} (h : TOwn B w v qs) (hq : qs[a]? = some (.slice A n c, ⟨ys, wd⟩)) (hn : ys.length = n) :
    ∃ g cap, v = .slice (some ⟨g, 0, none⟩) qs.length cap ∧ w.cell? ⟨g, a * 2, none⟩ = some (.slice A n c) ∧ w.cell? ⟨g, a * 2 + 1, none⟩ = some (.int .i64 wd) := by
  obtain ⟨g, cap, A2, c2, h1, _, h2, h3, h4, _⟩ := h.node hq
  refine ⟨g, cap, h1, ?_, h4⟩
  rw [h3, ← h2]
theorem own_edge {B : Nat} {w : World} {v : Value} {qs : List (Value × Nd)} {a n c N : Nat} {A : Option Addr} {ys : List Eg} {wd : Int} {e : Eg} (h : TOwn B w v qs) (hq : qs[a]? = some (.slice A n c, ⟨ys, wd⟩)) (hn : ys.length = n) (hm : n ≤ maxLen) (hN : ys[N]? = some e) :
    ∃ b o, A = some ⟨b, o, none⟩ ∧ N < n ∧ EdAt w b (o + N * 2) e := by
  subst hn
  have hlt : N < ys.length := (List.getElem?_eq_some_iff.1 hN).1
  obtain ⟨b, o, e2, h1, _, h2, _, h3⟩ := edges_get (edges_own (h.edge a _ hq) hm (h.small a _ hq)) hlt
  rw [hN] at h2
  injection h2 with h2
  subst h2
  exact ⟨b, o, h1, hlt, h3 _ (Below.refl _ _)⟩
/-- what a builder hands back: a trie of its own. -/
def BuiltR (w : World) (R : List Nd) (f : Value → Value) (e : Ending) (w' : World) : Prop := ∃ v ps, e = .returned (f v) ∧ TOwn w.heap.size w' v ps ∧ GoodT (ps.map (·.2)) ∧ ps.map (·.2) = R ∧ ps.length ≤ 481 ∧ Below w.heap.size w w'
set_option maxHeartbeats 16000000 in
set_option maxRecDepth 100000 in
theorem build_ok (A : Option Addr) (n cap : Nat) (l : List ByteArray) (w : World) (hT : StrsAt w w.heap.size A n l) (h40 : n ≤ 40) (hbad : l.any wordBad = false) :
    Calls Try.prog 8 #[.slice A n cap] w (BuiltR w (buildL (bsL l)) fun v => .tuple #[v, .int .i64 0]) := by
  have HT := Lib.hid hT
  have HN : Hid (l.length = n) := Lib.hid hT.1
  have CB : Hid (Calls Try.prog 20 #[.slice A n cap, .func (.func 21) #[] #[]] w fun e w' => e = .returned (.bool false) ∧ w = w') := Lib.hid (by have := containsBad_any A n cap l w hT; rwa [hbad] at this)
  have HB : Hid (∀ s ∈ l, s.size ≤ 12) := Lib.hid fun s hs => by
    have h1 := List.any_eq_false.1 hbad s hs
    unfold wordBad at h1
    simp at h1
    omega
  obtain ⟨R, hR⟩ : ∃ R, R = buildL (bsL l) := ⟨_, rfl⟩
  have HR := Lib.hid hR
  rw [← hR]
  have hd40 : decide ((40 : Int) < (n : Int)) = false := decide_eq_false (by omega)
  clear hT hbad hR
  go_enter Try.func8, Try.ntmps8
  go_wp2_with (go_at_call 20; (with_reducible refine CB.out.mono ?_); rintro e w1 ⟨rfl, rfl⟩)
  clear CB
  go_loopw [4, 20] (fun s4 s20 wr => ∃ (k : Nat) (ps : List (Value × Nd)), k ≤ n ∧ s20 = .int .i64 k ∧ Hid (TOwn w.heap.size wr s4 ps) ∧ Hid (GoodT (ps.map (·.2)) ∧ R = buildF (ps.map (·.2)) k (bsL (l.drop k))) ∧ 0 < ps.length ∧ ps.length ≤ 1 + 12 * k ∧ Below w.heap.size w wr) (fun _ s20 _ => n - (intOf s20).toNat)
  case atStart => exact ⟨0, _, Nat.zero_le _, rfl, Lib.hid (TOwn.start w w.heap.size (Nat.le_refl _)), Lib.hid ⟨good_root, HR.out.trans (build_all l)⟩, by simp, by simp, (Below.refl _ _).alloc (Nat.le_refl _) _⟩
  case round =>
    obtain ⟨k, ps, hk, rfl, hO, hG, hp0, hpl, hb⟩ := hrel
    have hz := hb.size
    by_cases hlt : k < n
    · obtain ⟨b, o, s, hA, hbB, hs, hss⟩ := strs_get HT.out hlt
      subst hA
      have e0 := hss _ hb
      have HS := Lib.hid hs
      have hs12 := HB.out s (List.mem_of_getElem? hs)
      have hG2 : Hid (GoodT (ps.map (·.2)) ∧ R = leftB l k s (ps.map (·.2)) 0 0) := Lib.hid ⟨hG.out.1, hG.out.2.trans (left_start hs _)⟩
      clear hs hss hG
      obtain ⟨wo, hwo⟩ : ∃ wo : World, wo = wr := ⟨_, rfl⟩
      rw [← hwo] at hb hz e0 hO
      rw [← hwo]
      clear hwo
      go_wp2
      clear e0
      go_loopw [4, 7, 27] (fun s4 s7 s27 wr => ∃ (i a : Nat) (ps : List (Value × Nd)), i ≤ s.size ∧ s27 = .int .i64 i ∧ s7 = .int .i64 a ∧ a < ps.length ∧ Hid (TOwn w.heap.size wr s4 ps) ∧ Hid (GoodT (ps.map (·.2)) ∧ R = leftB l k s (ps.map (·.2)) a i) ∧ ps.length ≤ 1 + 12 * k + i ∧ Below w.heap.size w wr) (fun _ _ s27 _ => s.size - (intOf s27).toNat)
      case atStart => exact ⟨0, 0, ps, Nat.zero_le _, rfl, rfl, hp0, hO, hG2, by omega, hb⟩
      case round =>
        clear hO hG2 hb hz hpl hp0
        clear ps
        obtain ⟨i, a, ps, hi, rfl, rfl, ha, hO, hG, hpl, hb⟩ := hrel
        have hz := hb.size
        obtain ⟨p, hp, hpm⟩ := map_get ha
        obtain ⟨g, cp, A2, c2, rfl, hgl, hpe, f0, f1, f2, f3⟩ := hO.out.node hp
        have HP := Lib.hid hp
        have HPM := Lib.hid hpm
        have hplen := good_len hG.out.1 hpm
        have HPE := Lib.hid hpe
        clear hp hpm
        by_cases hit : i < s.size
        · have hc := bs_at s i hit
          have hc255 := byte_le s i hit
          obtain ⟨c, hcc⟩ : ∃ c, c = s[i].toNat := ⟨_, rfl⟩
          rw [← hcc] at hc hc255
          have HCC := Lib.hid hcc
          have hr := (hG.out.1 a p.2 HPM.out).1
          have hE : EdgesAt wr wr.heap.size A2 p.2.es.length p.2.es := edges_own (by have := hO.out.edge a p HP.out; rwa [HPE.out] at this) (by unfold maxLen; omega) (hO.out.small a p HP.out)
          have HE := Lib.hid hE
          have HF : Hid (∀ V, Below wr.heap.size wr V → Calls Try.prog 22 #[.agg #[.slice A2 p.2.es.length c2, .int .i64 p.2.word], .int .u8 s[i].toNat] V fun e w' => e = .returned (.tuple #[.int .i64 (cntE p.2.es c), .bool (hasE p.2.es c)]) ∧ Below V.heap.size V w') := Lib.hid fun V hV => by rw [← hcc]; exact findP_any p.2 A2 c2 c V (EdgesAt.next HE.out hV) hr
          have HRI := Lib.hid hr
          have HTo := Lib.hid (good_to hG.out.1 HPM.out c)
          obtain ⟨T, hTT⟩ : ∃ T, T = hasE p.2.es c := ⟨_, rfl⟩
          have HT2 := Lib.hid hTT
          rw [← hTT] at HF
          obtain ⟨N, hNN⟩ : ∃ N, N = cntE p.2.es c := ⟨_, rfl⟩
          have HN2 := Lib.hid hNN
          rw [← hNN] at HF
          obtain ⟨ml, hml⟩ : ∃ ml, ml = p.2.es.length := ⟨_, rfl⟩
          have HML := Lib.hid hml
          obtain ⟨wd, hwd⟩ : ∃ wd, wd = p.2.word := ⟨_, rfl⟩
          have HWD := Lib.hid hwd
          rw [← hml] at HF f0 HE hplen
          rw [← hwd] at HF f1
          obtain ⟨nn, hnn⟩ : ∃ nn, nn = ps.length := ⟨_, rfl⟩
          have HNN := Lib.hid hnn
          rw [← hnn] at ha hpl
          have HC := Lib.hid hc
          have hbd : Below wr.heap.size wr wr.drew := ⟨rfl, rfl, rfl, Nat.le_refl _, fun _ _ => rfl⟩
          have HS2 : Hid (∀ V, Below wr.heap.size wr V → Below wr.heap.size wr V ∧ (V.cell? ⟨g, a * 2, none⟩ = some (.slice A2 ml c2) ∧ V.cell? ⟨g, a * 2 + 1, none⟩ = some (.int .i64 wd))) := Lib.hid fun V hV => ⟨hV, (hV.cell hgl).trans f0, (hV.cell hgl).trans f1⟩
          have HFZ : Hid (∀ V, Below wr.heap.size wr V → V.frozen? ⟨g, a * 2, none⟩ = false) := Lib.hid fun V hV => (hV.frozen (p := ⟨g, a * 2, none⟩) hgl).trans f2
          clear hc hcc hr hE hTT hNN hml hwd f2 f3
          rw [← hnn]
          clear hnn
          cases T
          · go_wp2
            go_region_held3 (fun w' => Below wr.heap.size wr w' ∧ (w'.cell? ⟨g, a * 2, none⟩ = some (.slice A2 ml c2) ∧ w'.cell? ⟨g, a * 2 + 1, none⟩ = some (.int .i64 wd))) (first | exact HS2.out _ (Below.refl _ _) | exact HS2.out _ hbd | exact HS2.out _ hb2) (first | (go_at_call 22; (with_reducible refine (HF.out _ (by first | exact Below.refl _ _ | exact hbd)).mono ?_); rintro e w2 ⟨rfl, hb20⟩; have hb2 := hbd.trans (hb20.mono hbd.size); clear hb20))
            have hNE := hasE_no HRI.out HT2.out.symm
            have HO2 := Lib.hid (hO.out.kept (grown_of_below hb2))
            have hb3 := hb.trans (hb2.mono hz)
            obtain ⟨ys, hys⟩ : ∃ ys, ys = insE p.2.es ⟨c, nn⟩ := ⟨_, rfl⟩
            have HYS := Lib.hid hys
            have HI : Hid (∀ W xb, Below w2.heap.size w2 W → w2.heap.size ≤ xb → W.heap[xb]? = some (.cells #[.int .u8 s[i].toNat, .int .i64 nn] 54 (0, 0)) → Calls Try.prog 23 #[.slice A2 ml c2, .int .i64 N, .slice (some ⟨xb, 0, none⟩) 1 1] W (InsR w.heap.size (.slice A2 ml c2) ml ys W)) := Lib.hid fun W xb hW hxl hxc => by
              have h1 := (HO2.out.kept (grown_of_below hW)).edge a p HP.out
              have h0 := HO2.out.edge a p HP.out
              rw [HPE.out, ← HML.out] at h1 h0
              have h2 := ins_any w.heap.size (.slice A2 ml c2) ml N p.2.es ⟨c, nn⟩ xb W h1 (Nat.le_trans hb3.size hW.size) (by omega) (by rw [HN2.out, HML.out]; exact cntE_le _ _) (by rw [HCC.out]; exact hxc) (fun e => by have := (h0.lt _ e).2; omega)
              rw [HYS.out, insE_cnt HRI.out hNE.2, ← HN2.out]
              exact h2
            have hz2 := hb2.size
            have HS3 : Hid (∀ V, Below w2.heap.size w2 V → V.cell? ⟨g, a * 2, none⟩ = some (.slice A2 ml c2) ∧ V.frozen? ⟨g, a * 2, none⟩ = false) := Lib.hid fun V hV => ⟨(HS2.out V (hb2.trans (hV.mono hz2))).2.1, HFZ.out V (hb2.trans (hV.mono hz2))⟩
            have hbd3 : Below w2.heap.size w2 w2.drew := ⟨rfl, rfl, rfl, Nat.le_refl _, fun _ _ => rfl⟩
            have HB3 : Hid (Below w2.heap.size w2 (w2.drew.alloc (.cells #[.int .u8 s[i].toNat, .int .i64 nn] 54))) := Lib.hid (hbd3.alloc (Nat.le_refl _) _)
            have HX3 : Hid ((w2.drew.alloc (.cells #[.int .u8 s[i].toNat, .int .i64 nn] 54)).heap[w2.heap.size]? = some (.cells #[.int .u8 s[i].toNat, .int .i64 nn] 54 (0, 0))) := Lib.hid (World.alloc_heap_new w2.drew _)
            have HAP : Hid ((Value.slice A2 ml c2).ownBlock ≠ some g) := Lib.hid fun e => hO.out.apart a p HP.out g rfl (by rw [HPE.out, ← HML.out]; exact e)
            have HYL : Hid (ys.length = ml + 1) := Lib.hid (by rw [hys, insE_len, HML.out])
            have HG3 : Hid (∀ w3, (w2.drew.alloc (.cells #[.int .u8 s[i].toNat, .int .i64 nn] 54)).grownBy w3 (Value.slice A2 ml c2).ownBlock → w3.cell? ⟨g, a * 2, none⟩ = some (.slice A2 ml c2) ∧ w3.frozen? ⟨g, a * 2, none⟩ = false) := Lib.hid fun w3 h => by
              obtain ⟨k0, k1⟩ := HS3.out _ HB3.out
              have hlt : (⟨g, a * 2, none⟩ : Addr).block < (w2.drew.alloc (.cells #[.int .u8 s[i].toNat, .int .i64 nn] 54)).heap.size := Nat.lt_of_lt_of_le hgl (Nat.le_trans hz2 HB3.out.size)
              have hne : some g ≠ (Value.slice A2 ml c2).ownBlock := fun e => HAP.out e.symm
              exact ⟨(h.cell_far _ hlt hne).trans k0, (h.frozen_far _ hlt hne).trans k1⟩
            have HT3 : Hid (∀ w3 v3, w3.ownsRow w.heap.size 54 2 v3 (ml + 1) (eds ys) → (w2.drew.alloc (.cells #[.int .u8 s[i].toNat, .int .i64 nn] 54)).grownBy w3 (Value.slice A2 ml c2).ownBlock → NearOr (w2.drew.alloc (.cells #[.int .u8 s[i].toNat, .int .i64 nn] 54)) (.slice A2 ml c2) v3 → TOwn w.heap.size (w3.setCell ⟨g, a * 2, none⟩ v3) (.slice (some ⟨g, 0, none⟩) nn cp) (ps.set a (v3, ⟨ys, wd⟩)) ∧ Below w.heap.size w (w3.setCell ⟨g, a * 2, none⟩ v3)) := Lib.hid fun w3 v3 h1 h2 h3 => by
              have ho2 := HO2.out.kept (grown_of_below HB3.out)
              have hgB : w.heap.size ≤ g := (ho2.row.lt g rfl).1
              have hpB : ∀ k, (Value.slice A2 ml c2).ownBlock = some k → w.heap.size ≤ k := fun k hk => ((HO2.out.edge a p HP.out).lt k (by rw [HPE.out, ← HML.out]; exact hk)).1
              have hp1 : p.1 = .slice A2 ml c2 := by rw [HPE.out, HML.out]
              have hsy : ∀ e ∈ ys, e.c ≤ 255 := fun e he => by
                rw [HYS.out] at he
                rcases insE_mem.1 he with rfl | he
                · exact hc255
                · exact HO2.out.small a p HP.out e he
              obtain rfl := HNN.out
              rw [HWD.out]
              exact ⟨ho2.setEdges HP.out v3 ys (by rw [HYL.out]; exact h1) (by rw [hp1]; exact h2) (by rw [hp1]; exact h3) hsy, ((hb3.trans (HB3.out.mono hb3.size)).grown h2 (Nat.le_trans hb3.size HB3.out.size) hpB).setCell hgB _⟩
            have HNY : Hid (ys[N]? = some ⟨c, nn⟩) := Lib.hid (by
              rw [hys, insE_cnt HRI.out hNE.2, ← HN2.out, List.getElem?_append_right (by rw [List.length_take]; exact Nat.min_le_left _ _)]
              rw [List.length_take, Nat.min_eq_left (by rw [HN2.out]; exact cntE_le _ _), Nat.sub_self]
              rfl)
            have HG5 : Hid (∀ v3, GoodT ((ps.set a (v3, (⟨ys, wd⟩ : Nd)) ++ [(Value.slice none 0 0, (⟨[], -1⟩ : Nd))]).map (·.2)) ∧ R = leftB l k s ((ps.set a (v3, (⟨ys, wd⟩ : Nd)) ++ [(Value.slice none 0 0, (⟨[], -1⟩ : Nd))]).map (·.2)) nn (i + 1)) := Lib.hid fun v3 => by
              have e1 : (ps.set a (v3, (⟨ys, wd⟩ : Nd)) ++ [(Value.slice none 0 0, (⟨[], -1⟩ : Nd))]).map (·.2) = (ps.map (·.2)).set a ⟨insE p.2.es ⟨c, (ps.map (·.2)).length⟩, p.2.word⟩ ++ [⟨[], -1⟩] := by
                rw [List.map_append, map_set, HYS.out, HWD.out, List.length_map, ← HNN.out]; rfl
              rw [e1]
              refine ⟨good_grow hG.out.1 HPM.out hc255 hNE.2, ?_⟩
              have := hG.out.2.trans (left_no HPM.out HC.out hNE.1)
              rwa [List.length_map, ← HNN.out] at this ⊢
            clear hys hO
            go_wp2
            obtain ⟨q0, q1⟩ := HS3.out _ hbd3
            obtain ⟨q2, q3⟩ := HS3.out _ (Below.refl _ _)
            obtain ⟨q4, q5⟩ := HS3.out (w2.alloc (.cells #[.int .u8 s[i].toNat, .int .i64 nn] 54)) ((Below.refl _ _).alloc (Nat.le_refl _) _)
            go_region_law (first | (go_simp; go_at_call 23; refine (HI.out _ _ HB3.out (Nat.le_refl _) HX3.out).mono ?_; rintro e w3 hI3; obtain ⟨v3, rfl, ho3, hg3, hn3⟩ := hI3; obtain ⟨A3, cp3, rfl, _⟩ := own_form ho3; obtain ⟨c3, z3⟩ := HG3.out _ hg3; obtain ⟨HT4, HB4⟩ := HT3.out _ _ ho3 hg3 hn3; replace ho3 := Lib.hid ho3; replace HT4 := Lib.hid HT4; replace HB4 := Lib.hid HB4; replace hn3 := Lib.hid hn3; replace hg3 := Lib.hid hg3))
            all_goals
              obtain ⟨wz, hwz⟩ : ∃ wz, wz = w3.setCell ⟨g, a * 2, none⟩ (.slice A3 (ml + 1) cp3) := ⟨_, rfl⟩
              rw [← hwz] at HT4 HB4
              rw [← hwz]
              clear hwz
              have HT5 : Hid (TOwn w.heap.size (wz.alloc (.cells #[.slice none 0 0, .int .i64 (-1)] 49)) (.slice (some ⟨g, 0, none⟩) nn cp) (ps.set a (.slice A3 (ml + 1) cp3, (⟨ys, wd⟩ : Nd)))) := Lib.hid (HT4.out.kept (World.grownBy_alloc wz _ none))
              have HLS : Hid ((ps.set a (.slice A3 (ml + 1) cp3, (⟨ys, wd⟩ : Nd))).length = nn) := Lib.hid (by rw [List.length_set, HNN.out])
              go_wp2_with (at_builtin; go_must (refine wpList_app2 rfl _ _ 23 rfl w.heap.size 49 (.agg #[.slice none 0 0, .int .i64 0]) 2 32 Try.underlying23 infoNode rfl (by decide) _ nn _ rfl (HLS.out ▸ HT5.out.row) ⟨wz.heap.size, 0, none⟩ 1 1 [.slice none 0 0, .int .i64 (-1)] rfl rfl (laid_at (cs := #[.slice none 0 0, .int .i64 (-1)])) (by intro u hu; simp at hu; rcases hu with rfl | rfl <;> rfl) (by unfold maxLen; omega) (by omega) (by have := HB4.out.size; simp at this ⊢ <;> omega) ?_); intro v' w4 hown4 hg4 hn4)
              obtain ⟨qs, hqs⟩ : ∃ qs, qs = ps.set a (.slice A3 (ml + 1) cp3, (⟨ys, wd⟩ : Nd)) ++ [(Value.slice none 0 0, (⟨[], -1⟩ : Nd))] := ⟨_, rfl⟩
              have HT6 : Hid (TOwn w.heap.size w4 v' qs) := Lib.hid (by rw [hqs]; exact (HLS.out ▸ HT5.out : TOwn w.heap.size (wz.alloc (.cells #[.slice none 0 0, .int .i64 (-1)] 49)) (.slice (some ⟨g, 0, none⟩) nn cp) (ps.set a (.slice A3 (ml + 1) cp3, (⟨ys, wd⟩ : Nd)))).push (by rw [HLS.out]; exact hown4) hg4 hn4)
              have HB6 : Hid (Below w.heap.size w w4) := Lib.hid ((HB4.out.alloc HB4.out.size _).grown hg4 (by have := HB4.out.size; simp at this ⊢ <;> omega) (fun k hk => (HT5.out.row.lt k hk).1))
              have HQA : Hid (qs[a]? = some (.slice A3 (ml + 1) cp3, ⟨ys, wd⟩)) := Lib.hid (by
                rw [hqs, List.getElem?_append_left (by rw [HLS.out]; exact ha), List.getElem?_set_self (by rw [← HNN.out]; exact ha)])
              have HQL : Hid (qs.length = nn + 1) := Lib.hid (by rw [hqs, List.length_append, HLS.out]; rfl)
              have HG6 : Hid (GoodT (qs.map (·.2)) ∧ R = leftB l k s (qs.map (·.2)) nn (i + 1)) := Lib.hid (by rw [hqs]; exact HG5.out _)
              clear hqs
              obtain ⟨g2, cap2, hv, k0, k1⟩ := own_node HT6.out HQA.out HYL.out
              rw [HQL.out] at hv
              subst hv
              obtain ⟨b3, o3, rfl, hN3, d0, d1⟩ := own_edge HT6.out HQA.out HYL.out (by unfold maxLen; omega) HNY.out
              simp only at d1
              go_wp2
              go_roundw
              case rel => exact ⟨i + 1, nn, qs, by omega, by go_num, rfl, by rw [HQL.out]; omega, HT6, HG6, by rw [HQL.out]; omega, HB6.out⟩
              case measure => simp [intOf]; omega
          · obtain ⟨e, he, hto⟩ : ∃ e, p.2.es[N]? = some e ∧ edTo p.2.es c = e.to := by rw [HN2.out]; exact hasE_yes HRI.out HT2.out.symm
            have hNl : N < ml := by rw [HML.out]; exact (List.getElem?_eq_some_iff.1 he).1
            obtain ⟨b2, o2, e2, hA2, hbB2, he2, hec, hee⟩ := edges_get HE.out hNl
            rw [he] at he2
            injection he2 with he2
            subst he2
            obtain ⟨j, hj, hjl⟩ : ∃ j : Nat, edTo p.2.es c = (j : Int) ∧ j < nn := by
              rcases HTo.out with ⟨j, h1, h2⟩ | ⟨h1, h2⟩
              · exact ⟨j, h1, by rw [HNN.out]; simpa using h2⟩
              · exact absurd (by
                  have h3 := HT2.out
                  unfold hasE at h3
                  rw [← HN2.out, he] at h3
                  simp only at h3
                  exact beq_iff_eq.1 h3.symm) (h2 e (List.mem_of_getElem? he))
            have HG2 : Hid (GoodT (ps.map (·.2)) ∧ R = leftB l k s (ps.map (·.2)) j (i + 1)) := Lib.hid ⟨hG.out.1, hG.out.2.trans (left_yes HPM.out HC.out hj)⟩
            have HTJ : Hid (e.to = (j : Int)) := Lib.hid (hto.symm.trans hj)
            have HEE : Hid (∀ V, Below wr.heap.size wr V → EdAt V b2 (o2 + N * 2) e) := Lib.hid hee
            clear he hto hj hee hG HTo HT2 HRI
            subst hA2
            go_wp2
            go_region_held3 (fun w' => Below wr.heap.size wr w' ∧ (w'.cell? ⟨g, a * 2, none⟩ = some (.slice (some ⟨b2, o2, none⟩) ml c2) ∧ w'.cell? ⟨g, a * 2 + 1, none⟩ = some (.int .i64 wd))) (first | exact HS2.out _ (Below.refl _ _) | exact HS2.out _ hbd | exact HS2.out _ hb2) (first | (go_at_call 22; (with_reducible refine (HF.out _ (by first | exact Below.refl _ _ | exact hbd)).mono ?_); rintro e w2 ⟨rfl, hb20⟩; have hb2 := hbd.trans (hb20.mono hbd.size); clear hb20))
            obtain ⟨_, k0, k1⟩ := HS2.out _ hb2
            obtain ⟨g0, g1⟩ := HEE.out _ hb2
            rw [HTJ.out] at g1
            have HO2 := Lib.hid (hO.out.kept (grown_of_below hb2))
            have hb3 := hb.trans (hb2.mono hz)
            clear hO
            go_wp2
            go_roundw
            case rel => exact ⟨i + 1, j, ps, by omega, by go_num, rfl, by rw [← HNN.out]; exact hjl, by rw [HNN.out]; exact HO2, HG2, by rw [← HNN.out]; omega, hb3⟩
            case measure => simp [intOf]; omega
        · have hL : R = buildF (markT (ps.map (·.2)) a k) (k + 1) (bsL (l.drop (k + 1))) := hG.out.2.trans (left_end (by omega))
          have hgB : w.heap.size ≤ g := (hO.out.row.lt g rfl).1
          by_cases hw0 : p.2.word < 0
          · have hM := mark_yes (k := k) HPM.out hw0
            have HG9 : Hid (GoodT ((ps.set a (p.1, (⟨p.2.es, k⟩ : Nd))).map (·.2)) ∧ R = buildF ((ps.set a (p.1, (⟨p.2.es, k⟩ : Nd))).map (·.2)) (k + 1) (bsL (l.drop (k + 1)))) := Lib.hid (by
              rw [map_set, ← hM]
              exact ⟨good_mark hG.out.1 a k, hL⟩)
            have HT9 : Hid (TOwn w.heap.size (wr.setCell ⟨g, a * 2 + 1, none⟩ (.int .i64 k)) (.slice (some ⟨g, 0, none⟩) ps.length cp) (ps.set a (p.1, ⟨p.2.es, k⟩))) := Lib.hid (hO.out.setWord HP.out k)
            have HB9 : Hid (Below w.heap.size w (wr.setCell ⟨g, a * 2 + 1, none⟩ (.int .i64 k))) := Lib.hid (hb.setCell hgB _)
            have HLS : Hid ((ps.set a (p.1, (⟨p.2.es, k⟩ : Nd))).length = ps.length) := Lib.hid (by rw [List.length_set])
            have hd0 : decide (p.2.word < 0) = true := decide_eq_true hw0
            clear hL hM hG hO
            go_wp2
            go_roundw
            case rel => exact ⟨k + 1, _, by omega, by go_num, HT9, HG9, by rw [HLS.out]; omega, by rw [HLS.out]; omega, HB9.out⟩
            case measure => simp [intOf]; omega
          · have hM := mark_no (k := k) HPM.out hw0
            have HG9 : Hid (GoodT (ps.map (·.2)) ∧ R = buildF (ps.map (·.2)) (k + 1) (bsL (l.drop (k + 1)))) := Lib.hid (by
              refine ⟨hG.out.1, ?_⟩
              rw [← hM]
              exact hL)
            have hd0 : decide (p.2.word < 0) = false := decide_eq_false hw0
            clear hL hM hG
            go_wp2
            go_roundw
            case rel => exact ⟨k + 1, ps, by omega, by go_num, hO, HG9, by omega, by omega, hb⟩
            case measure => simp [intOf]; omega
    · have hk2 : k = n := by omega
      subst hk2
      have hL : R = ps.map (·.2) := by rw [hG.out.2, List.drop_eq_nil_of_le (by rw [HN.out]; exact Nat.le_refl _)]; rfl
      go_wp2
      go_ret2
      exact ⟨_, ps, rfl, hO.out, hG.out.1, by first | rfl | exact hL.symm, by omega, hb⟩
theorem build_many (A : Option Addr) (n cap : Nat) (w : World) (h40 : 40 < n) (hn : n ≤ 9223372036854775807) :
    Calls Try.prog 8 #[.slice A n cap] w (fun e w' => e = .returned (.tuple #[.slice none 0 0, .int .i64 2]) ∧ w = w') := by
  have hd40 : decide ((40 : Int) < (n : Int)) = true := decide_eq_true (by omega)
  go_enter Try.func8, Try.ntmps8
  go_wp2
  go_ret2
  exact ⟨rfl, rfl⟩
theorem build_name (A : Option Addr) (n cap : Nat) (l : List ByteArray) (w : World) (hT : StrsAt w w.heap.size A n l) (h40 : n ≤ 40) (hbad : l.any wordBad = true) :
    Calls Try.prog 8 #[.slice A n cap] w (fun e w' => e = .returned (.tuple #[.slice none 0 0, .int .i64 5]) ∧ w = w') := by
  have CB : Hid (Calls Try.prog 20 #[.slice A n cap, .func (.func 21) #[] #[]] w fun e w' => e = .returned (.bool true) ∧ w = w') := Lib.hid (by have := containsBad_any A n cap l w hT; rwa [hbad] at this)
  clear hT hbad
  have hd40 : decide ((40 : Int) < (n : Int)) = false := decide_eq_false (by omega)
  go_enter Try.func8, Try.ntmps8
  go_wp2_with (go_at_call 20; (with_reducible refine CB.out.mono ?_); rintro e w1 ⟨rfl, rfl⟩)
  go_ret2
  exact ⟨rfl, rfl⟩
/-- words that are not right. -/
theorem build_bad (A : Option Addr) (n cap : Nat) (l : List ByteArray) (w : World) (hT : StrsAt w w.heap.size A n l) (hE : wordsE l ≠ 0) :
    Calls Try.prog 8 #[.slice A n cap] w (fun e w' => e = .returned (.tuple #[.slice none 0 0, .int .i64 (wordsE l)]) ∧ w = w') := by
  have hl := hT.1
  have hn : n ≤ 9223372036854775807 := hT.2.1
  unfold wordsE at hE ⊢
  by_cases h40 : 40 < n
  · rw [if_pos (by omega)]
    exact build_many A n cap w h40 hn
  · rw [if_neg (by omega)] at hE ⊢
    cases hb : l.any wordBad
    · rw [hb] at hE; exact absurd rfl hE
    · rw [if_pos rfl]
      exact build_name A n cap l w hT (by omega) hb
/-- right words. -/
theorem build_right (A : Option Addr) (n cap : Nat) (l : List ByteArray) (w : World) (hT : StrsAt w w.heap.size A n l) (hE : wordsE l = 0) :
    Calls Try.prog 8 #[.slice A n cap] w (BuiltR w (buildL (bsL l)) fun v => .tuple #[v, .int .i64 0]) := by
  have hl := hT.1
  unfold wordsE at hE
  by_cases h40 : 40 < n
  · rw [if_pos (by omega)] at hE; cases hE
  · rw [if_neg (by omega)] at hE
    cases hb : l.any wordBad
    · exact build_ok A n cap l w hT (by omega) hb
    · rw [hb, if_pos rfl] at hE; cases hE
end Go.Proofs.Ytggepbkhhnhnkaa
