/- Tries: the reference's BuildOf. -/
import Derived.Test.YtggepbkhhnhnkaaTrBS
import Derived.Deep.CutRange
import Derived.Deep.QuietTactic
set_option linter.unusedVariables false
set_option linter.unusedSimpArgs false
namespace Go.Proofs.Ytggepbkhhnhnkaa
open Go.RowKit Gno
set_option maxHeartbeats 16000000 in
set_option maxRecDepth 100000 in
theorem buildOf_ok (A : Option Addr) (n cap : Nat) (l : List ByteArray) (w : World) (hT : StrsAt w w.heap.size A n l) (h40 : n ≤ 40) (hbad : l.any wordBad = false) :
    Calls Try.prog 10 #[.slice A n cap] w (BuiltR w (buildL (bsL l)) fun v => v) := by
  have HT := Lib.hid hT
  have HN : Hid (l.length = n) := Lib.hid hT.1
  have HB : Hid (∀ s ∈ l, s.size ≤ 12) := Lib.hid fun s hs => by
    have h1 := List.any_eq_false.1 hbad s hs
    unfold wordBad at h1
    simp at h1
    omega
  obtain ⟨R, hR⟩ : ∃ R, R = buildL (bsL l) := ⟨_, rfl⟩
  have HR := Lib.hid hR
  rw [← hR]
  have hd40 : decide ((40 : Int) < (n : Int)) = false := decide_eq_false (by omega)
  clear hT hbad hR
  go_enter Try.func10, Try.ntmps10
  go_wp2_with fail
  go_loopw [3, 4] (fun s4 s20 wr => ∃ (k : Nat) (ps : List (Value × Nd)), k ≤ n ∧ s20 = .int .i64 k ∧ Hid (TOwn w.heap.size wr s4 ps) ∧ Hid (GoodT (ps.map (·.2)) ∧ R = buildF (ps.map (·.2)) k (bsL (l.drop k))) ∧ 0 < ps.length ∧ ps.length ≤ 1 + 12 * k ∧ Below w.heap.size w wr) (fun _ s20 _ => n - (intOf s20).toNat)
  case atStart => exact ⟨0, _, Nat.zero_le _, rfl, Lib.hid (TOwn.start w w.heap.size (Nat.le_refl _)), Lib.hid ⟨good_root, HR.out.trans (build_all l)⟩, by simp, by simp, (Below.refl _ _).alloc (Nat.le_refl _) _⟩
  case round =>
    obtain ⟨k, ps, hk, rfl, hO, hG, hp0, hpl, hb⟩ := hrel
    have hz := hb.size
    by_cases hlt : k < n
    · obtain ⟨b, o, s, hA, hbB, hs, hss⟩ := strs_get HT.out hlt
      subst hA
      have HSS := Lib.hid hss
      have hs12 := HB.out s (List.mem_of_getElem? hs)
      have hG2 : Hid (GoodT (ps.map (·.2)) ∧ R = leftB l k s (ps.map (·.2)) 0 0) := Lib.hid ⟨hG.out.1, hG.out.2.trans (left_start hs _)⟩
      clear hs hss hG
      go_wp2
      go_loopw [3, 5, 6] (fun s4 s7 s27 wr => ∃ (i a : Nat) (ps : List (Value × Nd)), i ≤ s.size ∧ s27 = .int .i64 i ∧ s7 = .int .i64 a ∧ a < ps.length ∧ Hid (TOwn w.heap.size wr s4 ps) ∧ Hid (GoodT (ps.map (·.2)) ∧ R = leftB l k s (ps.map (·.2)) a i) ∧ ps.length ≤ 1 + 12 * k + i ∧ Below w.heap.size w wr) (fun _ _ s27 _ => s.size - (intOf s27).toNat)
      case atStart => exact ⟨0, 0, ps, Nat.zero_le _, rfl, rfl, hp0, hO, hG2, by omega, hb⟩
      case round =>
        clear hO hG2 hb hz hpl hp0
        clear ps
        obtain ⟨i, a, ps, hi, rfl, rfl, ha, hO, hG, hpl, hb⟩ := hrel
        have hz := hb.size
        obtain ⟨p, hp, hpm⟩ := map_get ha
        obtain ⟨g, cp, A2, c2, rfl, hgl, hpe, f0, f1, f2, f3⟩ := hO.out.node hp
        have HP := Lib.hid hp
        have HPM := Lib.hid hpm
        have hplen := good_len hG.out.1 hpm
        have HPE := Lib.hid hpe
        have e0 := HSS.out _ hb
        clear hp hpm
        by_cases hit : i < s.size
        · have hc := bs_at s i hit
          have hc255 := byte_le s i hit
          obtain ⟨c, hcc⟩ : ∃ c, c = s[i].toNat := ⟨_, rfl⟩
          rw [← hcc] at hc hc255
          have HCC := Lib.hid hcc
          have hr := (hG.out.1 a p.2 HPM.out).1
          have hE : EdgesAt wr wr.heap.size A2 p.2.es.length p.2.es := edges_own (by have := hO.out.edge a p HP.out; rwa [HPE.out] at this) (by unfold maxLen; omega) (hO.out.small a p HP.out)
          have HRI := Lib.hid hr
          have HTo := Lib.hid (good_to hG.out.1 HPM.out c)
          obtain ⟨ml, hml⟩ : ∃ ml, ml = p.2.es.length := ⟨_, rfl⟩
          have HML := Lib.hid hml
          obtain ⟨wd, hwd⟩ : ∃ wd, wd = p.2.word := ⟨_, rfl⟩
          have HWD := Lib.hid hwd
          obtain ⟨J, hJ⟩ : ∃ J, J = edTo p.2.es c := ⟨_, rfl⟩
          have HF : Hid (Calls Try.prog 25 #[.agg #[.slice A2 ml c2, .int .i64 wd], .int .u8 s[i].toNat] wr fun e w' => e = .returned (.int .i64 J) ∧ Below wr.heap.size wr w') := Lib.hid (by rw [← hcc, hml, hwd, hJ]; exact edgeOf_any p.2 A2 c2 c wr hE)
          have HJ := Lib.hid hJ
          rw [← hJ] at HTo
          rw [← hml] at f0 hplen
          rw [← hwd] at f1
          obtain ⟨nn, hnn⟩ : ∃ nn, nn = ps.length := ⟨_, rfl⟩
          have HNN := Lib.hid hnn
          rw [← hnn] at ha hpl
          have HC := Lib.hid hc
          have HS2 : Hid (∀ V, Below wr.heap.size wr V → (V.cell? ⟨g, a * 2, none⟩ = some (.slice A2 ml c2) ∧ V.cell? ⟨g, a * 2 + 1, none⟩ = some (.int .i64 wd)) ∧ V.frozen? ⟨g, a * 2, none⟩ = false) := Lib.hid fun V hV => ⟨⟨(hV.cell hgl).trans f0, (hV.cell hgl).trans f1⟩, (hV.frozen (p := ⟨g, a * 2, none⟩) hgl).trans f2⟩
          clear hc hcc hr hE hml hwd f2 f3 hJ
          rw [← hnn]
          clear hnn
          by_cases hJ0 : 0 ≤ J
          · obtain ⟨jn, rfl⟩ : ∃ jn : Nat, J = (jn : Int) := ⟨J.toNat, by omega⟩
            have hjl : jn < nn := by
              rcases HTo.out with ⟨q, h1, h2⟩ | ⟨h1, _⟩
              · rw [HNN.out]; simp at h2; omega
              · omega
            have HG2 : Hid (GoodT (ps.map (·.2)) ∧ R = leftB l k s (ps.map (·.2)) jn (i + 1)) := Lib.hid ⟨hG.out.1, hG.out.2.trans (left_yes HPM.out HC.out HJ.out.symm)⟩
            go_wp2_with (go_at_call 25; (with_reducible refine HF.out.mono ?_); rintro e w2 ⟨rfl, hb2⟩)
            have HO2 := Lib.hid (hO.out.kept (grown_of_below hb2))
            have hb3 := hb.trans (hb2.mono hz)
            go_roundw
            case rel => exact ⟨i + 1, jn, ps, by omega, by go_num, rfl, by rw [← HNN.out]; exact hjl, by rw [HNN.out]; exact HO2, HG2, by rw [← HNN.out]; omega, hb3⟩
            case measure => simp [intOf]; omega
          · obtain ⟨hJ1, hno⟩ : J = -1 ∧ ∀ e ∈ p.2.es, e.c ≠ c := by
              rcases HTo.out with ⟨q, h1, h2⟩ | ⟨h1, h2⟩
              · omega
              · exact ⟨h1, h2⟩
            have HNO := Lib.hid hno
            clear hno hJ0
            subst hJ1
            go_upto_region 13 with (go_at_call 25; (with_reducible refine HF.out.mono ?_); rintro e w2 ⟨rfl, hb2⟩)
            have HO2 := Lib.hid (hO.out.kept (grown_of_below hb2))
            have hb3 := hb.trans (hb2.mono hz)
            have hz2 := hb2.size
            obtain ⟨z2, hzz⟩ : ∃ z2, z2 = w2.heap.size := ⟨_, rfl⟩
            have HZ2 := Lib.hid hzz
            obtain ⟨es, hes⟩ : ∃ es, es = p.2.es := ⟨_, rfl⟩
            have HES := Lib.hid hes
            have hel : es.length = ml := by rw [hes, HML.out]
            have hal : Below w2.heap.size w2 (w2.alloc (.cells #[] 54)) := (Below.refl _ _).alloc (Nat.le_refl _) _
            have hEA : (w2.alloc (.cells #[] 54)).ownsRow w.heap.size 54 2 (.slice A2 ml c2) ml (eds es) := by
              have h1 := (HO2.out.kept (grown_of_below hal)).edge a p HP.out
              rw [HPE.out, ← HML.out, ← hes] at h1
              exact h1
            have HEA := Lib.hid (own_news hEA)
            have HLE : Hid ((eds es).length = ml * 2) := Lib.hid (by rw [eds_len, hel])
            have HOA : Hid ((w2.alloc (.cells #[] 54)).ownsRow w2.heap.size 54 2 (.slice (some ⟨w2.heap.size, 0, none⟩) 0 0) 0 []) := Lib.hid ⟨rfl, .inr ⟨w2.heap.size, 0, _, rfl, Nat.le_refl _, World.alloc_heap_new w2 _, Nat.le_refl _, by unfold maxLen; omega, rfl, rfl⟩⟩
            obtain ⟨⟨q0, _⟩, _⟩ := HS2.out _ (hb2.trans (hal.mono hz2))
            obtain ⟨⟨q1, _⟩, _⟩ := HS2.out _ hb2
            clear hzz hes hEA
            go_upto_region 14 with (first
              | (at_builtin; refine wpList_appo rfl _ _ 47 rfl w2.heap.size 54 (.agg #[.int .u8 0, .int .i64 0]) 2 16 Try.underlying47 infoEdge rfl (by decide) _ 0 [] rfl HOA.out A2 ml c2 (eds es) rfl HEA.out.1 HLE.out HEA.out.2 eds_one (by unfold maxLen; omega) (by omega) hal.size ?_; intro vB wB hownB hgB hnB)
              | (at_builtin; go_must (refine wpList_app2 rfl _ _ 47 rfl w2.heap.size 54 (.agg #[.int .u8 0, .int .i64 0]) 2 16 Try.underlying47 infoEdge rfl (by decide) _ (0 + ml) ([] ++ eds es) rfl (hownB.alloc _) ⟨wB.heap.size, 0, none⟩ 1 1 [.int .u8 s[i].toNat, .int .i64 nn] rfl rfl (laid_at (cs := #[.int .u8 s[i].toNat, .int .i64 nn])) (by intro u hu; simp at hu; rcases hu with rfl | rfl <;> rfl) (by unfold maxLen; omega) (by omega) (by have := hgB.size; simp at this ⊢ <;> omega) ?_); intro vD wD hownD hgD hnD))
            have hgB2 : (w2.alloc (.cells #[] 54)).grownBy wB (Value.slice (some ⟨w2.heap.size, 0, none⟩) 0 0).ownBlock := hgB
            have hbB : Below w2.heap.size w2 wB := hal.grown hgB2 hal.size (fun k hk => (HOA.out.lt k hk).1)
            have hgD2 : (wB.alloc (.cells #[.int .u8 s[i].toNat, .int .i64 nn] 54)).grownBy wD vB.ownBlock := hgD
            have hbD : Below w2.heap.size w2 wD := (hbB.alloc hbB.size _).grown hgD2 (by have := hbB.size; simp at this ⊢ <;> omega) (fun k hk => (hownB.lt k hk).1)
            rw [Nat.zero_add, List.nil_append] at hownD
            obtain ⟨AD, cD, rfl, hfD⟩ := own_form hownD
            obtain ⟨g2, rfl, hgl2⟩ := hfD (by omega)
            have HWD0 : Hid (wD.ownsRow w2.heap.size 54 2 (.slice (some ⟨g2, 0, none⟩) (ml + 1) cD) (ml + 1) (eds (bub es ⟨c, nn⟩ ml))) := Lib.hid (by
              rw [← hel, bub_end, eds_app, hel, HCC.out]
              exact hownD)
            have HBD := Lib.hid hbD
            have hcl : cntE es c ≤ ml := hel ▸ cntE_le es c
            have hml9 : ml ≤ 256 := hplen
            have hes2 : p.2.es = es := HES.out.symm
            have HTAIL : Hid (∀ wq, wq.ownsRow w2.heap.size 54 2 (.slice (some ⟨g2, 0, none⟩) (ml + 1) cD) (ml + 1) (eds (insE es ⟨c, nn⟩)) → Below w2.heap.size w2 wq → TOwn w.heap.size (wq.setCell ⟨g, a * 2, none⟩ (.slice (some ⟨g2, 0, none⟩) (ml + 1) cD)) (.slice (some ⟨g, 0, none⟩) nn cp) (ps.set a (.slice (some ⟨g2, 0, none⟩) (ml + 1) cD, (⟨insE es ⟨c, nn⟩, wd⟩ : Nd))) ∧ Below w.heap.size w (wq.setCell ⟨g, a * 2, none⟩ (.slice (some ⟨g2, 0, none⟩) (ml + 1) cD))) := Lib.hid fun wq h1 h2 => by
              have hgw : w.heap.size ≤ g := (HO2.out.row.lt g rfl).1
              have hg2w : w2.heap.size ≤ g2 := (h1.lt g2 rfl).1
              have hsy : ∀ e ∈ insE es ⟨c, nn⟩, e.c ≤ 255 := fun e he => by
                rcases insE_mem.1 he with rfl | he
                · exact hc255
                · exact HO2.out.small a p HP.out e (hes2 ▸ he)
              obtain rfl := HNN.out
              rw [HWD.out]
              exact ⟨HO2.out.setEdges HP.out _ (insE es ⟨c, ps.length⟩) (by rw [insE_len, hel]; exact own_base h1 hb3.size) ((grown_of_below h2).but _) (.inr fun k hk => by simp [Value.ownBlock] at hk; omega) hsy, (hb3.trans (h2.mono hb3.size)).setCell hgw _⟩
            have HG5 : Hid (∀ v3, GoodT ((ps.set a (v3, (⟨insE es ⟨c, nn⟩, wd⟩ : Nd)) ++ [(Value.slice none 0 0, (⟨[], -1⟩ : Nd))]).map (·.2)) ∧ R = leftB l k s ((ps.set a (v3, (⟨insE es ⟨c, nn⟩, wd⟩ : Nd)) ++ [(Value.slice none 0 0, (⟨[], -1⟩ : Nd))]).map (·.2)) nn (i + 1)) := Lib.hid fun v3 => by
              have e1 : (ps.set a (v3, (⟨insE es ⟨c, nn⟩, wd⟩ : Nd)) ++ [(Value.slice none 0 0, (⟨[], -1⟩ : Nd))]).map (·.2) = (ps.map (·.2)).set a ⟨insE p.2.es ⟨c, (ps.map (·.2)).length⟩, p.2.word⟩ ++ [⟨[], -1⟩] := by
                rw [List.map_append, map_set, HWD.out, List.length_map, ← HNN.out, hes2]; rfl
              rw [e1]
              refine ⟨good_grow hG.out.1 HPM.out hc255 HNO.out, ?_⟩
              have := hG.out.2.trans (left_no HPM.out HC.out HJ.out.symm)
              rwa [List.length_map, ← HNN.out] at this ⊢
            clear hgB hgB2 hgD hgD2 hnB hnD hownD hownB hbB hbD hfD q0 q1 HOA HLE HEA hal HF e0
            go_wp2_with fail
            go_loopw [10] (fun s10 wr => ∃ (jj : Nat), jj ≤ ml ∧ s10 = .int .i64 jj ∧ Hid (wr.ownsRow w2.heap.size 54 2 (.slice (some ⟨g2, 0, none⟩) (ml + 1) cD) (ml + 1) (eds (bub es ⟨c, nn⟩ jj))) ∧ Hid (Below w2.heap.size w2 wr) ∧ cntE es c ≤ jj) (fun s10 _ => (intOf s10).toNat)
            case atStart => exact ⟨ml, Nat.le_refl _, by go_num, HWD0, HBD, hcl⟩
            case round =>
              obtain ⟨jj, hjj, rfl, HOW, HBW, hcj⟩ := hrel
              by_cases hj0 : jj = 0
              · subst hj0
                go_wp2_with fail
                go_quiet (fail)
                have hjc : 0 = cntE es c := bub_stop (x := ⟨c, nn⟩) (hes2 ▸ HRI.out) (hes2 ▸ HNO.out) hcj (by omega) (.inl rfl)
                obtain ⟨wq, hwq⟩ : ∃ wq, wq = wr.drewN nq := ⟨_, rfl⟩
                have hbq : Below w2.heap.size w2 wq := by rw [hwq]; exact below_drewT HBW.out _
                have hoq : wq.ownsRow w2.heap.size 54 2 (.slice (some ⟨g2, 0, none⟩) (ml + 1) cD) (ml + 1) (eds (insE es ⟨c, nn⟩)) := by
                  rw [← bub_ins (j := 0) (hes2 ▸ HRI.out) (hes2 ▸ HNO.out) hjc, hwq]
                  exact HOW.out.kept (grown_of_below (below_drewT (Below.refl _ _) _)) (.inr (by simp [Value.ownBlock]))
                rw [← hwq]
                clear hwq HOW HBW hjc
                have HTL := Lib.hid (HTAIL.out wq hoq hbq)
                obtain ⟨⟨q0, _⟩, q1⟩ := HS2.out _ (hb2.trans (hbq.mono hz2))
                go_upto_region 21 with fail
                obtain ⟨wz, hwz⟩ : ∃ wz, wz = wq.setCell ⟨g, a * 2, none⟩ (.slice (some ⟨g2, 0, none⟩) (ml + 1) cD) := ⟨_, rfl⟩
                rw [← hwz] at HTL
                rw [← hwz]
                obtain ⟨HT4, HB4⟩ := HTL.out
                replace HT4 := Lib.hid HT4
                replace HB4 := Lib.hid HB4
                clear hwz q0 q1 hoq hbq HTL
                have HT5 : Hid (TOwn w.heap.size (wz.alloc (.cells #[.slice none 0 0, .int .i64 (-1)] 49)) (.slice (some ⟨g, 0, none⟩) nn cp) (ps.set a (.slice (some ⟨g2, 0, none⟩) (ml + 1) cD, (⟨insE es ⟨c, nn⟩, wd⟩ : Nd)))) := Lib.hid (HT4.out.kept (World.grownBy_alloc wz _ none))
                have HLS : Hid ((ps.set a (Value.slice (some ⟨g2, 0, none⟩) (ml + 1) cD, (⟨insE es ⟨c, nn⟩, wd⟩ : Nd))).length = nn) := Lib.hid (by rw [List.length_set, HNN.out])
                go_wp2_with (at_builtin; go_must (refine wpList_app2 rfl _ _ 23 rfl w.heap.size 49 (.agg #[.slice none 0 0, .int .i64 0]) 2 32 Try.underlying23 infoNode rfl (by decide) _ nn _ rfl (HLS.out ▸ HT5.out.row) ⟨wz.heap.size, 0, none⟩ 1 1 [.slice none 0 0, .int .i64 (-1)] rfl rfl (laid_at (cs := #[.slice none 0 0, .int .i64 (-1)])) (by intro u hu; simp at hu; rcases hu with rfl | rfl <;> rfl) (by unfold maxLen; omega) (by omega) (by have := HB4.out.size; simp at this ⊢ <;> omega) ?_); intro v' w4 hown4 hg4 hn4)
                obtain ⟨qs, hqs⟩ : ∃ qs, qs = ps.set a (.slice (some ⟨g2, 0, none⟩) (ml + 1) cD, (⟨insE es ⟨c, nn⟩, wd⟩ : Nd)) ++ [(Value.slice none 0 0, (⟨[], -1⟩ : Nd))] := ⟨_, rfl⟩
                have HT6 : Hid (TOwn w.heap.size w4 v' qs) := Lib.hid (by rw [hqs]; exact HT5.out.push (by rw [HLS.out]; exact hown4) hg4 hn4)
                have HB6 : Hid (Below w.heap.size w w4) := Lib.hid ((HB4.out.alloc HB4.out.size _).grown hg4 (by have := HB4.out.size; simp at this ⊢ <;> omega) (fun k hk => (HT5.out.row.lt k hk).1))
                have HQL : Hid (qs.length = nn + 1) := Lib.hid (by rw [hqs, List.length_append, HLS.out]; rfl)
                have HG6 : Hid (GoodT (qs.map (·.2)) ∧ R = leftB l k s (qs.map (·.2)) nn (i + 1)) := Lib.hid (by rw [hqs]; exact HG5.out _)
                clear hqs
                go_roundw
                case rel => exact ⟨i + 1, nn, qs, by omega, by go_num, rfl, by rw [HQL.out]; omega, HT6, HG6, by rw [HQL.out]; omega, HB6.out⟩
                case measure => simp [intOf]; omega
              · obtain ⟨j2, hj2⟩ : ∃ j2, jj = j2 + 1 := ⟨jj - 1, by omega⟩
                obtain ⟨e, he⟩ : ∃ e, es[j2]? = some e := ⟨es[j2]'(by omega), List.getElem?_eq_getElem _⟩
                obtain ⟨be1, be2⟩ := bub_get (x := ⟨c, nn⟩) he
                rw [← hj2] at be1 be2
                have ow := HOW.out
                obtain ⟨x0, x1⟩ := eds_get _ _ _ be1
                obtain ⟨y0, y1⟩ := eds_get _ _ _ be2
                have c0 := own_cell ow x0
                have c1 := own_cell ow x1
                have c2' := own_cell ow y0
                have c3 := own_cell ow y1
                simp only at c0 c1 c2' c3
                clear x0 x1 y0 y1 be1 be2 ow
                have hw1 : wrap64 ((jj : Int) - 1) = (j2 : Int) := by unfold wrap64; omega
                have hw4 : IntKind.i64.wrap ((jj : Int) - 1) = (j2 : Int) := by rw [IntKind.wrap_i64]; omega
                have hi1 : j2 < ml + 1 := by omega
                have hi2 : jj < ml + 1 := by omega
                have hjp : 0 < jj := by omega
                have hjd : decide (0 < jj) = true := decide_eq_true hjp
                have hjd2 : decide ((0 : Int) < (jj : Int)) = true := decide_eq_true (by omega)
                have HJJ := Lib.hid hj2
                clear hj2
                by_cases hce : c < e.c
                · have hcd := decide_eq_true hce
                  go_wp2_with fail
                  go_quiet (fail)
                  obtain ⟨wq, hwq⟩ : ∃ wq, wq = wr.drewN nq := ⟨_, rfl⟩
                  have hbq : Below w2.heap.size w2 wq := by rw [hwq]; exact below_drewT HBW.out _
                  have hoq : wq.ownsRow w2.heap.size 54 2 (.slice (some ⟨g2, 0, none⟩) (ml + 1) cD) (ml + 1) (eds (bub es ⟨c, nn⟩ jj)) := by
                    rw [hwq]
                    exact HOW.out.kept (grown_of_below (below_drewT (Below.refl _ _) _)) (.inr (by simp [Value.ownBlock]))
                  rw [← hwq]
                  clear hwq HOW HBW c0 c1 c2' c3
                  obtain ⟨be1, be2⟩ := bub_get (x := ⟨c, nn⟩) he
                  rw [← HJJ.out] at be1 be2
                  obtain ⟨x0, x1⟩ := eds_get _ _ _ be1
                  obtain ⟨y0, y1⟩ := eds_get _ _ _ be2
                  have c0 := own_cell hoq x0
                  have c1 := own_cell hoq x1
                  have c2' := own_cell hoq y0
                  have c3 := own_cell hoq y1
                  simp only at c0 c1 c2' c3
                  have HOQ := Lib.hid hoq
                  have HBQ := Lib.hid hbq
                  clear hoq hbq x0 x1 y0 y1 be1 be2
                  go_wp2_with fail
                  refine swap_reg _ _ _ _ _ _ _ _ _ _ _ _ _ _ _ _ _ _ _ _ _ _ _ _ _ _ _ _ _ _ _ _ _ _ _ _ _ _ _ _ _ _ _ _ _ _ _ _ _ _ _ _ _ _ _ _ _ _ _ _ _ _ _ _ _ _ _ _ _ _ _ _ _ _ _ _ _ _ _ _ _ _ _ _ _ _ _ _ _ _ _ _ _ _ _ _ _ _ _ _ _ _ _ _ _ _ _ _ _ _ _ _ _ _ _ _ _ _ _ _ _ _ _ _ _ _ _ _ hw4 hi1 hi2 c0 c1 c2' c3 ?_
                  intro p q wx hbx hp hq hzp hzq
                  have hgl3 : g2 < wq.heap.size := World.block_lt_of_cell? wq _ c0
                  have hoq : wx.ownsRow w2.heap.size 54 2 (.slice (some ⟨g2, 0, none⟩) (ml + 1) cD) (ml + 1) (eds (bub es ⟨c, nn⟩ jj)) := HOQ.out.kept (grown_of_below hbx) (.inr (by simp [Value.ownBlock]))
                  have hbq : Below w2.heap.size w2 wx := HBQ.out.trans (hbx.mono HBQ.out.size)
                  clear c0 c1 c2' c3 HOQ HBQ hbx
                  obtain ⟨be1, be2⟩ := bub_get (x := ⟨c, nn⟩) he
                  rw [← HJJ.out] at be1 be2
                  obtain ⟨y0, y1⟩ := eds_get _ _ _ be2
                  have c2' := own_cell hoq y0
                  have c3 := own_cell hoq y1
                  obtain ⟨x0, x1⟩ := eds_get _ _ _ be1
                  have c0 := own_cell hoq x0
                  have c1 := own_cell hoq x1
                  simp only at c0 c1 c2' c3
                  have z0 := own_free hoq (j2 * 2)
                  have z1 := own_free hoq (j2 * 2 + 1)
                  have o1 := own_setCell hoq (j2 * 2) (by omega) (.int .u8 c)
                  have o2 := own_setCell o1 (j2 * 2 + 1) (by omega) (.int .i64 nn)
                  have o3 := own_setCell o2 (jj * 2) (by omega) (.int .u8 e.c)
                  have o4 := own_setCell o3 (jj * 2 + 1) (by omega) (.int .i64 e.to)
                  have hg2w : w2.heap.size ≤ g2 := (hoq.lt g2 rfl).1
                  rw [eds_set _ _ ⟨c, nn⟩ _ be1] at o2 o3 o4
                  rw [eds_set _ _ e ⟨c, nn⟩ (by rw [List.getElem?_set_ne (by have := HJJ.out; omega)]; exact be2), show ((bub es ⟨c, nn⟩ jj).set j2 ⟨c, nn⟩).set jj e = bub es ⟨c, nn⟩ j2 from by rw [HJJ.out]; exact bub_swap he] at o4
                  have v0 := own_free o2 (jj * 2)
                  have v1 := own_free o2 (jj * 2 + 1)
                  obtain ⟨u2, k2⟩ : ∃ u, ((wx.setCell ⟨g2, j2 * 2, none⟩ (.int .u8 c)).setCell ⟨g2, j2 * 2 + 1, none⟩ (.int .i64 nn)).cell? ⟨g2, jj * 2, none⟩ = some u := ⟨_, own_cell o2 (eds_get _ _ ⟨c, nn⟩ (by rw [List.getElem?_set_ne (by have := HJJ.out; omega)]; exact be2)).1⟩
                  obtain ⟨u3, k3⟩ : ∃ u, ((wx.setCell ⟨g2, j2 * 2, none⟩ (.int .u8 c)).setCell ⟨g2, j2 * 2 + 1, none⟩ (.int .i64 nn)).cell? ⟨g2, jj * 2 + 1, none⟩ = some u := ⟨_, own_cell o2 (eds_get _ _ ⟨c, nn⟩ (by rw [List.getElem?_set_ne (by have := HJJ.out; omega)]; exact be2)).2⟩
                  have HO4 := Lib.hid o4
                  have HB4 : Hid (Below w2.heap.size w2 ((((wx.setCell ⟨g2, j2 * 2, none⟩ (.int .u8 c)).setCell ⟨g2, j2 * 2 + 1, none⟩ (.int .i64 nn)).setCell ⟨g2, jj * 2, none⟩ (.int .u8 e.c)).setCell ⟨g2, jj * 2 + 1, none⟩ (.int .i64 e.to))) := Lib.hid ((((hbq.setCell (p := ⟨g2, j2 * 2, none⟩) hg2w _).setCell (p := ⟨g2, j2 * 2 + 1, none⟩) hg2w _).setCell (p := ⟨g2, jj * 2, none⟩) hg2w _).setCell (p := ⟨g2, jj * 2 + 1, none⟩) hg2w _)
                  have hcj2 := bub_go (x := ⟨c, nn⟩) he hce (HJJ.out ▸ hcj)
                  have q0' : wx.cell? ⟨q, 0, none⟩ = some (.int .u8 c) := by simp [World.cell?, hq]
                  have q1' : wx.cell? ⟨q, 1, none⟩ = some (.int .i64 nn) := by simp [World.cell?, hq]
                  have p0' : ((wx.setCell ⟨g2, j2 * 2, none⟩ (.int .u8 c)).setCell ⟨g2, j2 * 2 + 1, none⟩ (.int .i64 nn)).cell? ⟨p, 0, none⟩ = some (.int .u8 e.c) := by
                    rw [World.cell?_setCell_other _ _ _ _ (by first | (simp; done) | (simp; omega)), World.cell?_setCell_other _ _ _ _ (by first | (simp; done) | (simp; omega))]; simp [World.cell?, hp]
                  have p1' : ((wx.setCell ⟨g2, j2 * 2, none⟩ (.int .u8 c)).setCell ⟨g2, j2 * 2 + 1, none⟩ (.int .i64 nn)).cell? ⟨p, 1, none⟩ = some (.int .i64 e.to) := by
                    rw [World.cell?_setCell_other _ _ _ _ (by first | (simp; done) | (simp; omega)), World.cell?_setCell_other _ _ _ _ (by first | (simp; done) | (simp; omega))]; simp [World.cell?, hp]
                  clear o1 o2 o3 o4 hoq x0 x1 y0 y1 be1 be2 hbq hp hq
                  go_wp2_with fail
                  go_roundw
                  case rel => exact ⟨j2, by omega, by go_num, HO4, HB4, hcj2⟩
                  case measure =>
                    have h9 := HJJ.out
                    simp [intOf]; omega
                · have hcd := decide_eq_false hce
                  go_wp2_with fail
                  go_quiet (fail)
                  have hjc : jj = cntE es c := bub_stop (x := ⟨c, nn⟩) (hes2 ▸ HRI.out) (hes2 ▸ HNO.out) hcj (by omega) (.inr ⟨e, by rw [HJJ.out]; simpa using he, by simp; omega⟩)
                  obtain ⟨wq, hwq⟩ : ∃ wq, wq = wr.drewN nq := ⟨_, rfl⟩
                  have hbq : Below w2.heap.size w2 wq := by rw [hwq]; exact below_drewT HBW.out _
                  have hoq : wq.ownsRow w2.heap.size 54 2 (.slice (some ⟨g2, 0, none⟩) (ml + 1) cD) (ml + 1) (eds (insE es ⟨c, nn⟩)) := by
                    rw [← bub_ins (j := jj) (hes2 ▸ HRI.out) (hes2 ▸ HNO.out) hjc, hwq]
                    exact HOW.out.kept (grown_of_below (below_drewT (Below.refl _ _) _)) (.inr (by simp [Value.ownBlock]))
                  rw [← hwq]
                  clear hwq HOW HBW hjc
                  have HTL := Lib.hid (HTAIL.out wq hoq hbq)
                  obtain ⟨⟨q0, _⟩, q1⟩ := HS2.out _ (hb2.trans (hbq.mono hz2))
                  go_upto_region 21 with fail
                  obtain ⟨wz, hwz⟩ : ∃ wz, wz = wq.setCell ⟨g, a * 2, none⟩ (.slice (some ⟨g2, 0, none⟩) (ml + 1) cD) := ⟨_, rfl⟩
                  rw [← hwz] at HTL
                  rw [← hwz]
                  obtain ⟨HT4, HB4⟩ := HTL.out
                  replace HT4 := Lib.hid HT4
                  replace HB4 := Lib.hid HB4
                  clear hwz q0 q1 hoq hbq HTL
                  have HT5 : Hid (TOwn w.heap.size (wz.alloc (.cells #[.slice none 0 0, .int .i64 (-1)] 49)) (.slice (some ⟨g, 0, none⟩) nn cp) (ps.set a (.slice (some ⟨g2, 0, none⟩) (ml + 1) cD, (⟨insE es ⟨c, nn⟩, wd⟩ : Nd)))) := Lib.hid (HT4.out.kept (World.grownBy_alloc wz _ none))
                  have HLS : Hid ((ps.set a (Value.slice (some ⟨g2, 0, none⟩) (ml + 1) cD, (⟨insE es ⟨c, nn⟩, wd⟩ : Nd))).length = nn) := Lib.hid (by rw [List.length_set, HNN.out])
                  go_wp2_with (at_builtin; go_must (refine wpList_app2 rfl _ _ 23 rfl w.heap.size 49 (.agg #[.slice none 0 0, .int .i64 0]) 2 32 Try.underlying23 infoNode rfl (by decide) _ nn _ rfl (HLS.out ▸ HT5.out.row) ⟨wz.heap.size, 0, none⟩ 1 1 [.slice none 0 0, .int .i64 (-1)] rfl rfl (laid_at (cs := #[.slice none 0 0, .int .i64 (-1)])) (by intro u hu; simp at hu; rcases hu with rfl | rfl <;> rfl) (by unfold maxLen; omega) (by omega) (by have := HB4.out.size; simp at this ⊢ <;> omega) ?_); intro v' w4 hown4 hg4 hn4)
                  obtain ⟨qs, hqs⟩ : ∃ qs, qs = ps.set a (.slice (some ⟨g2, 0, none⟩) (ml + 1) cD, (⟨insE es ⟨c, nn⟩, wd⟩ : Nd)) ++ [(Value.slice none 0 0, (⟨[], -1⟩ : Nd))] := ⟨_, rfl⟩
                  have HT6 : Hid (TOwn w.heap.size w4 v' qs) := Lib.hid (by rw [hqs]; exact HT5.out.push (by rw [HLS.out]; exact hown4) hg4 hn4)
                  have HB6 : Hid (Below w.heap.size w w4) := Lib.hid ((HB4.out.alloc HB4.out.size _).grown hg4 (by have := HB4.out.size; simp at this ⊢ <;> omega) (fun k hk => (HT5.out.row.lt k hk).1))
                  have HQL : Hid (qs.length = nn + 1) := Lib.hid (by rw [hqs, List.length_append, HLS.out]; rfl)
                  have HG6 : Hid (GoodT (qs.map (·.2)) ∧ R = leftB l k s (qs.map (·.2)) nn (i + 1)) := Lib.hid (by rw [hqs]; exact HG5.out _)
                  clear hqs
                  go_roundw
                  case rel => exact ⟨i + 1, nn, qs, by omega, by go_num, rfl, by rw [HQL.out]; omega, HT6, HG6, by rw [HQL.out]; omega, HB6.out⟩
                  case measure => simp [intOf]; omega
        · have hL : R = buildF (markT (ps.map (·.2)) a k) (k + 1) (bsL (l.drop (k + 1))) := hG.out.2.trans (left_end (by omega))
          have hgB : w.heap.size ≤ g := (hO.out.row.lt g rfl).1
          by_cases hw0 : p.2.word < 0
          · have hM := mark_yes (k := k) HPM.out hw0
            have HG9 : Hid (GoodT ((ps.set a (p.1, (⟨p.2.es, k⟩ : Nd))).map (·.2)) ∧ R = buildF ((ps.set a (p.1, (⟨p.2.es, k⟩ : Nd))).map (·.2)) (k + 1) (bsL (l.drop (k + 1)))) := Lib.hid (by
              rw [map_set, ← hM]
              exact ⟨good_mark hG.out.1 a k, hL⟩)
            have HT9 : Hid (TOwn w.heap.size (wr.setCell ⟨g, a * 2 + 1, none⟩ (.int .i64 k)) (.slice (some ⟨g, 0, none⟩) ps.length cp) (ps.set a (p.1, ⟨p.2.es, k⟩))) := Lib.hid (hO.out.setWord HP.out k)
            have HB9 : Hid (Below w.heap.size w (wr.setCell ⟨g, a * 2 + 1, none⟩ (.int .i64 k))) := Lib.hid (hb.setCell hgB _)
            have HLS : Hid ((ps.set a (p.1, (⟨p.2.es, k⟩ : Nd))).length = ps.length) := Lib.hid (by rw [List.length_set])
            have hd0 : decide (p.2.word < 0) = true := decide_eq_true hw0
            clear hL hM hG hO
            go_wp2
            go_roundw
            case rel => exact ⟨k + 1, _, by omega, by go_num, HT9, HG9, by rw [HLS.out]; omega, by rw [HLS.out]; omega, HB9.out⟩
            case measure => simp [intOf]; omega
          · have hM := mark_no (k := k) HPM.out hw0
            have HG9 : Hid (GoodT (ps.map (·.2)) ∧ R = buildF (ps.map (·.2)) (k + 1) (bsL (l.drop (k + 1)))) := Lib.hid (by
              refine ⟨hG.out.1, ?_⟩
              rw [← hM]
              exact hL)
            have hd0 : decide (p.2.word < 0) = false := decide_eq_false hw0
            clear hL hM hG
            go_wp2
            go_roundw
            case rel => exact ⟨k + 1, ps, by omega, by go_num, hO, HG9, by omega, by omega, hb⟩
            case measure => simp [intOf]; omega
    · have hk2 : k = n := by omega
      subst hk2
      have hL : R = ps.map (·.2) := by rw [hG.out.2, List.drop_eq_nil_of_le (by rw [HN.out]; exact Nat.le_refl _)]; rfl
      go_wp2
      go_ret
      exact ⟨_, ps, rfl, hO.out, hG.out.1, by first | rfl | exact hL.symm, by omega, hb⟩
end Go.Proofs.Ytggepbkhhnhnkaa
