/- Parts of a proof, laid together. -/
import Derived.Deep.RegionHeld3
import Derived.Deep.CutRange
import Derived.Test.YthhjgndaiimgjaaGreatDoorMUSrcB27
import Derived.Test.YthhjgndaiimgjaaGreatDoorMUSrcB25
import Derived.Test.YthhjgndaiimgjaaGreatDoorMUSrcB22
set_option linter.unusedSimpArgs false
set_option linter.unusedVariables false
/-! Show. -/
section
set_option linter.unusedVariables false
set_option linter.unusedSimpArgs false
set_option maxRecDepth 100000
namespace Gno
open Go Go.RowKit Go.Proofs.YthhjgndaiimgjaaGreatDoor
theorem lineW_len {ws : List Wd} (hs : ∀ x ∈ ws, wdOk x) : (lineW (ws.map wdB)).length ≤ 51 * ws.length + 1 := by
  have := jn_len hs ws.length
  rw [← jn_all, List.length_append]
  simp only [List.length_singleton]
  omega
theorem set_words (s : St) : [Wd.s ⟨#[115, 101, 116]⟩, Wd.s s.name].map wdB = [wSet, s.name.data.toList] := rfl
theorem zone_words (s : Zn) : [Wd.s ⟨#[122, 111, 110, 101]⟩, Wd.s s.name].map wdB = [wZone, s.name.data.toList] := rfl
theorem link_words (s : Lk) : [Wd.s ⟨#[108, 105, 110, 107]⟩, Wd.s s.name, Wd.s s.to].map wdB = [wLink, s.name.data.toList, s.to.data.toList] := rfl
theorem rule_words (r : Rl) : [Wd.s ⟨#[114, 117, 108, 101]⟩, .n r.fy, .n r.ty, .n r.mo, .n r.k, .n r.wk, .n r.d, .n r.a, .n r.sv, .s (Bs (letW r.le.data.toList))].map wdB = ruleW Lib.itoa (cnR r) := rfl
theorem era_words (x : Er) : [Wd.s ⟨#[101, 114, 97]⟩, .n x.std, .n x.set, .n x.save, .s x.fmt, .n x.til].map wdB = eraW Lib.itoa (cnE x) := rfl
/-- what Show answers. -/
noncomputable def shewT (d : Dt) : ByteArray := if dataE d = 0 then Bs (showC Lib.itoa (cnOf d)) else ⟨#[]⟩
def penFresh (b : Nat) (w : World) : Prop := w.heap[b]? = some (.cells #[.pointer none, .slice none 0 0] 45)
end Gno
namespace Go.Proofs.YthhjgndaiimgjaaGreatDoor
open Go.RowKit Gno
theorem lineAt {B b k : Nat} {l : Bt} {ws : List Wd} {w1 W : World} (hp : PenIs B b l w1) (hb : Below w1.heap.size w1 W) (hm : SMet w1 B) (hB : B ≤ w1.heap.size) (hk : W.heap[k]? = some (.cells (ws.map wdVal).toArray 20)) (hl : l.length ≤ 1000000000) (hw : ws.length ≤ 1000) (hs : ∀ x ∈ ws, wdOk x) :
    Calls Tryz.prog 13 #[.pointer (some ⟨b, 0, none⟩), .slice (some ⟨k, 0, none⟩) ws.length ws.length] W fun e w' => e = .returned (.tuple #[]) ∧ PenUsed B b (l ++ lineW (ws.map wdB)) w' ∧ PG B b w1 w' :=
  (line_any B b k ws.length l ws W (hp.kept hb) (hm.below (hb.mono hB) (Nat.le_refl _)) (Nat.le_trans hB hb.size) hk hl hw hs).mono fun e w' q => ⟨q.1, q.2.1, (PG.of_below (PG.refl _ _ _) hB hb).trans q.2.2⟩
theorem letter_any (s : ByteArray) (w : World) :
    Calls Tryz.prog 14 #[.string s] w fun e w' => e = .returned (.string (Bs (letW s.data.toList))) ∧ w = w' := by
  by_cases he : s = ⟨#[]⟩
  · subst he
    have h1 : ((⟨#[]⟩ : ByteArray).toList == ([] : List UInt8)) = true := by rw [Lib.toList_data]; rfl
    go_enter Tryz.func14, Tryz.ntmps14
    go_wp2
    go_ret
    exact ⟨rfl, rfl⟩
  · have hne : s.data.toList ≠ [] := fun e => he (by rw [← Bs_list s, e]; rfl)
    have h1 : (s.toList == ([] : List UInt8)) = false := by rw [Lib.toList_data]; exact beq_eq_false_iff_ne.2 hne
    have h2 : s.toList.isEmpty = false := by rw [Lib.toList_data]; cases hq : s.data.toList with
      | nil => exact absurd hq hne
      | cons => rfl
    have HX : Hid (s = Bs (letW s.data.toList)) := Lib.hid (by unfold letW; rw [if_neg hne, Bs_list])
    clear he hne
    go_enter Tryz.func14, Tryz.ntmps14
    go_wp2
    go_ret
    exact ⟨by rw [← HX.out]; rfl, rfl⟩
set_option maxHeartbeats 16000000 in
theorem show_any (d : Dt) (w : World) (hD : DataAt w w.heap.size d) (hm : SMet w w.heap.size) :
    Calls Tryz.prog 5 #[d.val] w fun e w' => e = .returned (.tuple #[.string (shewT d), .int .i64 (dataE d)]) ∧ Below w.heap.size w w' := by
  have HD := Lib.hid hD
  have hsn : d.sn ≤ 9223372036854775807 := hD.1.2.1
  have hzn : d.zn ≤ 9223372036854775807 := hD.2.1.2.1
  have hln : d.ln ≤ 9223372036854775807 := hD.2.2.1.2.1
  obtain ⟨V, hV⟩ : ∃ V, V = w.alloc (.cells #[.slice d.sA d.sn d.sc, .slice d.zA d.zn d.zc, .slice d.lA d.ln d.lc] 26) := ⟨_, rfl⟩
  have hbV : Below w.heap.size w V := by rw [hV]; exact (Below.refl _ _).alloc (Nat.le_refl _) _
  have hVz : V.heap.size = w.heap.size + 1 := by rw [hV]; simp
  have hVd : V.heap[w.heap.size]? = some (.cells #[.slice d.sA d.sn d.sc, .slice d.zA d.zn d.zc, .slice d.lA d.ln d.lc] 26) := by rw [hV]; exact World.alloc_heap_new w _
  have CK : Hid (Calls Tryz.prog 12 #[d.val] V fun e w' => e = .returned (.int .i64 (dataE d)) ∧ Below V.heap.size V w') := Lib.hid (check_any d V (hD.next hbV) (hm.next hbV).mx)
  have x0 : V.cell? ⟨w.heap.size, 0, none⟩ = some (.slice d.sA d.sn d.sc) := cell_of hVd rfl
  have x1 : V.cell? ⟨w.heap.size, 1, none⟩ = some (.slice d.zA d.zn d.zc) := cell_of hVd rfl
  have x2 : V.cell? ⟨w.heap.size, 2, none⟩ = some (.slice d.lA d.ln d.lc) := cell_of hVd rfl
  have HVB := Lib.hid hbV
  have HVD := Lib.hid hVd
  have HVZ := Lib.hid hVz
  have HM := Lib.hid hm
  obtain ⟨E, hE⟩ : ∃ E, E = dataE d := ⟨_, rfl⟩
  have HE := Lib.hid hE
  rw [← hE] at CK ⊢
  unfold Dt.val at CK ⊢
  clear hD hm hbV hVd hVz hE
  by_cases h0 : E = 0
  · have HK := Lib.hid (showOk_of (HE.out.symm.trans h0))
    have HT : Hid (shewT d = Bs (showC Lib.itoa (cnOf d))) := Lib.hid (by unfold shewT; rw [if_pos (HE.out.symm.trans h0)])
    obtain ⟨R, hR⟩ : ∃ R, R = shewT d := ⟨_, rfl⟩
    have HR := Lib.hid hR
    rw [← hR]
    subst h0
    have hs3 : d.sn ≤ 3 := HK.out.few.1
    have hz5 : d.zn ≤ 5 := HK.out.few.2.1
    have hl4 : d.ln ≤ 4 := HK.out.few.2.2
    have HSL : Hid (d.ss.length = d.sn ∧ d.zs.length = d.zn ∧ d.ls.length = d.ln) := Lib.hid ⟨HD.out.1.1, HD.out.2.1.1, HD.out.2.2.1.1⟩
    clear hR
    go_enter Tryz.func5, Tryz.ntmps5
    go_upto_region 1 with fail
    rw [← hV]
    clear hV
    go_upto_region 4 with (go_at_call 12; (with_reducible refine CK.out.mono ?_); rintro e w1 ⟨rfl, hb1⟩)
    clear x0 x1 x2
    -- the pen
    obtain ⟨b, hb⟩ : ∃ b, b = w1.heap.size := ⟨_, rfl⟩
    obtain ⟨W0, hW0⟩ : ∃ W0, W0 = w1.alloc (.cells #[.pointer none, .slice none 0 0] 45) := ⟨_, rfl⟩
    have hwb : w.heap.size < b := by have := hb1.size; rw [HVZ.out] at this; omega
    have HBW : Hid (Below w.heap.size w W0) := Lib.hid (by rw [hW0]; exact (HVB.out.trans (hb1.mono (by rw [HVZ.out]; omega))).alloc (by omega) _)
    have HP0 : Hid (PenIs w.heap.size b [] W0) := Lib.hid (.inl ⟨by omega, .slice none 0 0, by rw [hW0, hb]; exact World.alloc_heap_new w1 _, World.ownsRow_nil _ _ _ _, by simp [Value.ownBlock]⟩)
    have HF0 : Hid (penFresh b W0) := Lib.hid (by unfold penFresh; rw [hW0, hb]; exact World.alloc_heap_new w1 _)
    have HX : Hid (∀ W, PG w.heap.size b W0 W → Below w.heap.size w W ∧ SMet W w.heap.size ∧ w.heap.size ≤ W.heap.size ∧ W.cell? ⟨w.heap.size, 0, none⟩ = some (.slice d.sA d.sn d.sc) ∧ W.cell? ⟨w.heap.size, 1, none⟩ = some (.slice d.zA d.zn d.zc) ∧ W.cell? ⟨w.heap.size, 2, none⟩ = some (.slice d.lA d.ln d.lc)) := Lib.hid fun W h => by
      have q1 : W0.heap[w.heap.size]? = some (.cells #[.slice d.sA d.sn d.sc, .slice d.zA d.zn d.zc, .slice d.lA d.ln d.lc] 26) := by
        rw [hW0]
        exact (Below.heap_alloc w1 _ _ (by omega)).trans ((hb1.block _ (by rw [HVZ.out]; omega)).trans HVD.out)
      have q2 := h.block q1 (by omega) (by decide)
      have q3 := HBW.out.trans h.1
      exact ⟨q3, HM.out.below q3 (Nat.le_refl _), q3.size, cell_of q2 rfl, cell_of q2 rfl, cell_of q2 rfl⟩
    go_upto_region 5 with fail
    rw [← hW0]
    clear hW0 hb1
    try rw [← hb]
    clear hb
    have HG0 : Hid (PG w.heap.size b W0 W0) := Lib.hid (PG.refl _ _ _)
    obtain ⟨_, _, _, x0, x1, x2⟩ := HX.out _ HG0.out
    go_wp2_with fail
    clear x0 x1 x2
    go_loopw [26] (fun b26 wr => ∃ (k : Nat) (L : Bt), k ≤ d.sn ∧ b26 = .int .i64 k ∧ L.length ≤ 0 + 3000 * k ∧ Hid (L = textW (shownS Lib.itoa (cnOf d) k)) ∧ Hid (PenIs w.heap.size b L wr) ∧ Hid (PG w.heap.size b W0 wr) ∧ Hid (L = [] → penFresh b wr)) (fun b26 _ => d.sn - (intOf b26).toNat)
    case atStart => exact ⟨0, [], Nat.zero_le _, rfl, Nat.le_refl _, Lib.hid rfl, HP0, HG0, Lib.hid fun _ => HF0.out⟩
    case round =>
      clear HP0 HG0 HF0
      obtain ⟨k, L, hk, rfl, hL, hE, hp, hg, hf⟩ := hrel
      obtain ⟨hbw, hmr, hBr, x0, x1, x2⟩ := HX.out _ hg.out
      by_cases hlt : k < d.sn
      · clear hf
        obtain ⟨b', o, s, hA, hbB, hs, _, hcell⟩ := sets_get HD.out.1 hlt
        obtain ⟨hsn4, hnm, hrr⟩ := HK.out.sets s (List.mem_of_getElem? hs)
        have HRR := Lib.hid hrr
        have HC := Lib.hid hcell
        have hin := (hcell w (Below.refl _ _)).2
        have HIN := Lib.hid hin
        have HRL : Hid (s.rs.length = s.n) := Lib.hid hin.1
        have HSA := Lib.hid (shownS_all hs)
        obtain ⟨⟨e0, e1⟩, _⟩ := hcell _ hbw
        rw [hA]
        have HA := Lib.hid hA
        clear hin hcell hrr hs hA
        obtain ⟨U, hU⟩ : ∃ U, U = wr.alloc (.cells #[.string s.name, .slice s.A s.n s.cap] 48) := ⟨_, rfl⟩
        obtain ⟨q, hq⟩ : ∃ q, q = wr.heap.size := ⟨_, rfl⟩
        have hUz : U.heap.size = q + 1 := by rw [hU, hq]; simp
        have hqb : q ≠ b := by have := hp.out.lt.1; omega
        have hUq : U.heap[q]? = some (.cells #[.string s.name, .slice s.A s.n s.cap] 48) := by rw [hU, hq]; exact World.alloc_heap_new wr _
        have HUG : Hid (PG w.heap.size b W0 U) := Lib.hid (by rw [hU]; exact hg.out.alloc HBW.out.size _)
        have hok : ∀ x ∈ [Wd.s ⟨#[115, 101, 116]⟩, Wd.s s.name], wdOk x := (by
          intro x hx
          simp only [List.mem_cons, List.not_mem_nil, or_false] at hx
          rcases hx with rfl | rfl
          · exact (by decide : (3 : Nat) ≤ 50)
          · exact Nat.le_trans hnm (by decide))
        have HLN : Hid (∀ W k', Below U.heap.size U W → W.heap[k']? = some (.cells #[.iface 9 (.string ⟨#[115, 101, 116]⟩), .iface 9 (.string s.name)] 20) → Calls Tryz.prog 13 #[.pointer (some ⟨b, 0, none⟩), .slice (some ⟨k', 0, none⟩) 2 2] W fun e w' => e = .returned (.tuple #[]) ∧ Hid (PenUsed w.heap.size b (L ++ lineW [wSet, s.name.data.toList]) w') ∧ Hid (PG w.heap.size b U w')) := Lib.hid fun W k' hW hk' =>
          (lineAt (ws := [Wd.s ⟨#[115, 101, 116]⟩, Wd.s s.name]) (hp.out.kept (by rw [hU]; exact (Below.refl _ _).alloc (Nat.le_refl _) _)) hW ((HX.out _ HUG.out).2.1) ((HX.out _ HUG.out).2.2.1) hk' (by omega) (by simp) hok).mono fun e w' q => ⟨q.1, Lib.hid (by rw [← set_words]; exact q.2.1), Lib.hid q.2.2⟩
        have hzl : (lineW [wSet, s.name.data.toList]).length ≤ 103 := by rw [← set_words]; exact lineW_len hok
        have hz1 : 1 ≤ (lineW [wSet, s.name.data.toList]).length := by unfold lineW; simp
        clear hbw hmr hBr hok
        go_upto_region 8 with fail
        rw [← hU]
        clear x0 x1 x2 e0 e1 hU
        try rw [← hq]
        clear hq
        have c0 : U.cell? ⟨q, 0, none⟩ = some (.string s.name) := cell_of hUq rfl
        have HUQ := Lib.hid hUq
        clear hUq
        go_upto_region 9 with (go_at_call 13; (with_reducible refine (HLN.out _ _ ((Below.refl _ _).alloc (Nat.le_refl _) _) (heap_new ?hsz)).mono ?_); (case hsz => first | rfl | exact hUz); rintro e w2 ⟨rfl, hp2, hg2⟩)
        have q1 := hg2.out.block HUQ.out hqb (by decide)
        have e1 : w2.cell? ⟨q, 1, none⟩ = some (.slice s.A s.n s.cap) := cell_of q1 rfl
        have HG2 : Hid (PG w.heap.size b W0 w2) := Lib.hid (HUG.out.trans hg2.out)
        have HP2 : Hid (PenIs w.heap.size b (L ++ lineW [wSet, s.name.data.toList]) w2) := Lib.hid hp2.out.is
        have HE2 : Hid (L ++ lineW [wSet, s.name.data.toList] = textW ((shownS Lib.itoa (cnOf d) k ++ [[wSet, s.name.data.toList]]) ++ (s.rs.take 0).map (fun r => ruleW Lib.itoa (cnR r)))) := Lib.hid (by rw [List.take_zero, List.map_nil, List.append_nil, text_snoc, hE.out])
        clear c0 q1 hp hg hE HLN HUG HUQ hp2 hg2
        go_wp2_with fail
        clear e1
        go_loopw [40] (fun b40 wr => ∃ (i : Nat) (T : Bt), i ≤ s.n ∧ b40 = .int .i64 i ∧ T.length ≤ 0 + 3000 * k + 103 + 520 * i ∧ 1 ≤ T.length ∧ Hid (T = textW ((shownS Lib.itoa (cnOf d) k ++ [[wSet, s.name.data.toList]]) ++ (s.rs.take i).map (fun r => ruleW Lib.itoa (cnR r)))) ∧ Hid (PenIs w.heap.size b T wr) ∧ Hid (PG w.heap.size b W0 wr)) (fun b40 _ => s.n - (intOf b40).toNat)
        case atStart => exact ⟨0, _, Nat.zero_le _, rfl, by rw [List.length_append]; omega, by rw [List.length_append]; omega, HE2, HP2, HG2⟩
        case round =>
          clear HE2 HP2 HG2 hL hzl hz1
          obtain ⟨i, T, hi, rfl, hT, hT1, hE, hp, hg⟩ := hrel
          obtain ⟨hbw, hmr, hBr, x0, x1, x2⟩ := HX.out _ hg.out
          clear x0 x1 x2
          by_cases hit : i < s.n
          · obtain ⟨f, g, r, hA2, _, hr, _, hrc⟩ := RulesAt.get HIN.out hit
            obtain ⟨hn8, hle⟩ := HRR.out r (List.mem_of_getElem? hr)
            obtain ⟨r0, r1, r2, r3, r4, r5, r6, r7, r8⟩ := hrc _ hbw
            obtain ⟨le, hle0⟩ : ∃ le, le = Bs (letW r.le.data.toList) := ⟨_, rfl⟩
            have hlez : le.size ≤ 12 := by
              rw [hle0]; unfold letW
              split
              · decide
              · rw [Bs_list]; exact hle
            have LT : Hid (∀ W, Calls Tryz.prog 14 #[.string r.le] W fun e w' => e = .returned (.string le) ∧ W = w') := Lib.hid fun W => by rw [hle0]; exact letter_any r.le W
            rw [hA2]
            have HA2 := Lib.hid hA2
            have HE3 : Hid (T ++ lineW (ruleW Lib.itoa (cnR r)) = textW ((shownS Lib.itoa (cnOf d) k ++ [[wSet, s.name.data.toList]]) ++ (s.rs.take (i + 1)).map (fun r => ruleW Lib.itoa (cnR r)))) := Lib.hid (by rw [shown_rule (c := cnOf d) hr, text_snoc, hE.out])
            obtain ⟨U, hU⟩ : ∃ U, U = wr.alloc (.cells #[.int .i64 r.fy, .int .i64 r.ty, .int .i64 r.mo, .int .i64 r.k, .int .i64 r.wk, .int .i64 r.d, .int .i64 r.a, .int .i64 r.sv, .string r.le] 53) := ⟨_, rfl⟩
            obtain ⟨p, hpp⟩ : ∃ p, p = wr.heap.size := ⟨_, rfl⟩
            have hUz : U.heap.size = p + 1 := by rw [hU, hpp]; simp
            have hpb : p ≠ b := by have := hp.out.lt.1; omega
            have hUp : U.heap[p]? = some (.cells #[.int .i64 r.fy, .int .i64 r.ty, .int .i64 r.mo, .int .i64 r.k, .int .i64 r.wk, .int .i64 r.d, .int .i64 r.a, .int .i64 r.sv, .string r.le] 53) := by rw [hU, hpp]; exact World.alloc_heap_new wr _
            have HUG : Hid (PG w.heap.size b W0 U) := Lib.hid (by rw [hU]; exact hg.out.alloc HBW.out.size _)
            have hwd : [Wd.s ⟨#[114, 117, 108, 101]⟩, Wd.n r.fy, Wd.n r.ty, Wd.n r.mo, Wd.n r.k, Wd.n r.wk, Wd.n r.d, Wd.n r.a, Wd.n r.sv, Wd.s le].map wdB = (ruleW Lib.itoa (cnR r)) := by rw [hle0]; exact rule_words r
            have hok : ∀ x ∈ [Wd.s ⟨#[114, 117, 108, 101]⟩, Wd.n r.fy, Wd.n r.ty, Wd.n r.mo, Wd.n r.k, Wd.n r.wk, Wd.n r.d, Wd.n r.a, Wd.n r.sv, Wd.s le], wdOk x := (by
              intro x hx
              simp only [List.mem_cons, List.not_mem_nil, or_false] at hx
              rcases hx with rfl | rfl | rfl | rfl | rfl | rfl | rfl | rfl | rfl | rfl
              · exact (by decide : (4 : Nat) ≤ 50)
              · exact hn8.1
              · exact hn8.2.1
              · exact hn8.2.2.1
              · exact hn8.2.2.2.1
              · exact hn8.2.2.2.2.1
              · exact hn8.2.2.2.2.2.1
              · exact hn8.2.2.2.2.2.2.1
              · exact hn8.2.2.2.2.2.2.2
              · exact Nat.le_trans hlez (by decide))
            have HLN : Hid (∀ W k', Below U.heap.size U W → W.heap[k']? = some (.cells #[.iface 9 (.string ⟨#[114, 117, 108, 101]⟩), .iface 3 (.int .i64 r.fy), .iface 3 (.int .i64 r.ty), .iface 3 (.int .i64 r.mo), .iface 3 (.int .i64 r.k), .iface 3 (.int .i64 r.wk), .iface 3 (.int .i64 r.d), .iface 3 (.int .i64 r.a), .iface 3 (.int .i64 r.sv), .iface 9 (.string le)] 20) → Calls Tryz.prog 13 #[.pointer (some ⟨b, 0, none⟩), .slice (some ⟨k', 0, none⟩) 10 10] W fun e w' => e = .returned (.tuple #[]) ∧ Hid (PenUsed w.heap.size b (T ++ lineW (ruleW Lib.itoa (cnR r))) w') ∧ Hid (PG w.heap.size b U w')) := Lib.hid fun W k' hW hk' =>
              (lineAt (ws := [Wd.s ⟨#[114, 117, 108, 101]⟩, Wd.n r.fy, Wd.n r.ty, Wd.n r.mo, Wd.n r.k, Wd.n r.wk, Wd.n r.d, Wd.n r.a, Wd.n r.sv, Wd.s le]) (hp.out.kept (by rw [hU]; exact (Below.refl _ _).alloc (Nat.le_refl _) _)) hW ((HX.out _ HUG.out).2.1) ((HX.out _ HUG.out).2.2.1) hk' (by omega) (by simp) hok).mono fun e w' q => ⟨q.1, Lib.hid (by rw [← hwd]; exact q.2.1), Lib.hid q.2.2⟩
            have hzl : (lineW (ruleW Lib.itoa (cnR r))).length ≤ 511 := by rw [← hwd]; exact lineW_len hok
            clear hbw hmr hBr hok hwd hrc hr hE hA2 hle0 hn8 hle
            have HKEEP : Hid (∀ W : World, W.heap[p]? = some (.cells #[.int .i64 r.fy, .int .i64 r.ty, .int .i64 r.mo, .int .i64 r.k, .int .i64 r.wk, .int .i64 r.d, .int .i64 r.a, .int .i64 r.sv, .string r.le] 53) → W.cell? ⟨p, 0, none⟩ = some (.int .i64 r.fy) ∧ W.cell? ⟨p, 1, none⟩ = some (.int .i64 r.ty) ∧ W.cell? ⟨p, 2, none⟩ = some (.int .i64 r.mo) ∧ W.cell? ⟨p, 3, none⟩ = some (.int .i64 r.k) ∧ W.cell? ⟨p, 4, none⟩ = some (.int .i64 r.wk) ∧ W.cell? ⟨p, 5, none⟩ = some (.int .i64 r.d) ∧ W.cell? ⟨p, 6, none⟩ = some (.int .i64 r.a) ∧ W.cell? ⟨p, 7, none⟩ = some (.int .i64 r.sv) ∧ W.cell? ⟨p, 8, none⟩ = some (.string r.le)) := Lib.hid fun W h => ⟨cell_of h rfl, cell_of h rfl, cell_of h rfl, cell_of h rfl, cell_of h rfl, cell_of h rfl, cell_of h rfl, cell_of h rfl, cell_of h rfl⟩
            go_upto_region 12 with fail
            rw [← hU]
            clear r0 r1 r2 r3 r4 r5 r6 r7 r8 hU
            try rw [← hpp]
            clear hpp
            have hUd : U.drew.heap[p]? = some (.cells #[.int .i64 r.fy, .int .i64 r.ty, .int .i64 r.mo, .int .i64 r.k, .int .i64 r.wk, .int .i64 r.d, .int .i64 r.a, .int .i64 r.sv, .string r.le] 53) := hUp
            have hUdz : U.drew.heap.size = p + 1 := hUz
            obtain ⟨c0, c1, c2, c3, c4, c5, c6, c7, c8⟩ := HKEEP.out _ hUd
            have HUP := Lib.hid hUp
            have HD0 : Hid (Below U.heap.size U U.drew) := Lib.hid (Below.refl _ _).drew
            go_region_held3 (fun w' => w'.cell? ⟨p, 0, none⟩ = some (.int .i64 r.fy) ∧ w'.cell? ⟨p, 1, none⟩ = some (.int .i64 r.ty) ∧ w'.cell? ⟨p, 2, none⟩ = some (.int .i64 r.mo) ∧ w'.cell? ⟨p, 3, none⟩ = some (.int .i64 r.k) ∧ w'.cell? ⟨p, 4, none⟩ = some (.int .i64 r.wk) ∧ w'.cell? ⟨p, 5, none⟩ = some (.int .i64 r.d) ∧ w'.cell? ⟨p, 6, none⟩ = some (.int .i64 r.a) ∧ w'.cell? ⟨p, 7, none⟩ = some (.int .i64 r.sv) ∧ w'.cell? ⟨p, 8, none⟩ = some (.string r.le))
              (first | (refine HKEEP.out _ ?_; first | with_reducible assumption | with_reducible exact heap_drew (heap_old HUP.out) | with_reducible exact heap_old hUd))
              (first
                | (go_at_call 14; (with_reducible refine (LT.out _).mono ?_); rintro e wl ⟨rfl, rfl⟩)
                | (go_at_call 13; (with_reducible refine (HLN.out _ _ ((Below.refl _ _).alloc (Nat.le_refl _) _).drew (heap_drew (heap_new ?hsz))).mono ?_); (case hsz => first | rfl | exact hUdz | exact hUz); rintro e w3 ⟨rfl, hp3, hg3⟩; have hb3 := hg3.out.block HUP.out hpb (by decide)))
            clear c0 c1 c2 c3 c4 c5 c6 c7 c8 hUd hUdz hUp hb3
            go_wp2_with fail
            try rw [← HA2.out]
            go_roundw
            case rel => exact ⟨i + 1, T ++ lineW (ruleW Lib.itoa (cnR r)), by omega, by go_num, by rw [List.length_append]; omega, by rw [List.length_append]; omega, HE3, Lib.hid hp3.out.is, Lib.hid (HUG.out.trans hg3.out)⟩
            case measure => simp [intOf] <;> omega
          · have HN : Hid (T = textW (shownS Lib.itoa (cnOf d) (k + 1))) := Lib.hid (by rw [hE.out, HSA.out, List.take_of_length_le (by rw [HRL.out]; omega)])
            have hTz : T.length ≤ 0 + 3000 * (k + 1) := by omega
            clear hE hbw hmr hBr
            go_wp2_with fail
            try rw [← HA.out]
            go_roundw
            case rel => exact ⟨k + 1, T, by omega, by go_num, hTz, HN, hp, hg, Lib.hid fun e => by rw [e] at hT1; exact absurd hT1 (by decide)⟩
            case measure => simp [intOf] <;> omega
      · have HS0 : Hid (L = textW (shownZ Lib.itoa (cnOf d) 0)) := Lib.hid (by rw [hE.out, shownS_end (by show (d.ss.map cnS).length ≤ k; rw [List.length_map, HSL.out.1]; omega)])
        have hLz : L.length ≤ 9000 := by omega
        have HP1 := hp
        have HG1 := hg
        have HF1 := hf
        clear hE hbw hmr hBr hp hg hf hL
        go_wp2_with fail
        clear x0 x1 x2
        go_loopw [84] (fun b84 wr => ∃ (k : Nat) (L : Bt), k ≤ d.zn ∧ b84 = .int .i64 k ∧ L.length ≤ 9000 + 3000 * k ∧ Hid (L = textW (shownZ Lib.itoa (cnOf d) k)) ∧ Hid (PenIs w.heap.size b L wr) ∧ Hid (PG w.heap.size b W0 wr) ∧ Hid (L = [] → penFresh b wr)) (fun b84 _ => d.zn - (intOf b84).toNat)
        case atStart => exact ⟨0, L, Nat.zero_le _, rfl, by omega, HS0, HP1, HG1, HF1⟩
        case round =>
          clear HP1 HG1 HF1 HS0 hLz
          obtain ⟨k, L, hk, rfl, hL, hE, hp, hg, hf⟩ := hrel
          obtain ⟨hbw, hmr, hBr, x0, x1, x2⟩ := HX.out _ hg.out
          by_cases hlt : k < d.zn
          · clear hf
            obtain ⟨b', o, s, hA, hbB, hs, _, hcell⟩ := zones_get HD.out.2.1 hlt
            obtain ⟨hsn4, hnm, hrr⟩ := HK.out.zones s (List.mem_of_getElem? hs)
            have HRR := Lib.hid hrr
            have HC := Lib.hid hcell
            have hin := (hcell w (Below.refl _ _)).2
            have HIN := Lib.hid hin
            have HRL : Hid (s.es.length = s.n) := Lib.hid hin.1
            have HSA := Lib.hid (shownZ_all hs)
            obtain ⟨⟨e0, e1⟩, _⟩ := hcell _ hbw
            rw [hA]
            have HA := Lib.hid hA
            clear hin hcell hrr hs hA
            obtain ⟨U, hU⟩ : ∃ U, U = wr.alloc (.cells #[.string s.name, .slice s.A s.n s.cap] 57) := ⟨_, rfl⟩
            obtain ⟨q, hq⟩ : ∃ q, q = wr.heap.size := ⟨_, rfl⟩
            have hUz : U.heap.size = q + 1 := by rw [hU, hq]; simp
            have hqb : q ≠ b := by have := hp.out.lt.1; omega
            have hUq : U.heap[q]? = some (.cells #[.string s.name, .slice s.A s.n s.cap] 57) := by rw [hU, hq]; exact World.alloc_heap_new wr _
            have HUG : Hid (PG w.heap.size b W0 U) := Lib.hid (by rw [hU]; exact hg.out.alloc HBW.out.size _)
            have hok : ∀ x ∈ [Wd.s ⟨#[122, 111, 110, 101]⟩, Wd.s s.name], wdOk x := (by
              intro x hx
              simp only [List.mem_cons, List.not_mem_nil, or_false] at hx
              rcases hx with rfl | rfl
              · exact (by decide : (4 : Nat) ≤ 50)
              · exact Nat.le_trans hnm (by decide))
            have HLN : Hid (∀ W k', Below U.heap.size U W → W.heap[k']? = some (.cells #[.iface 9 (.string ⟨#[122, 111, 110, 101]⟩), .iface 9 (.string s.name)] 20) → Calls Tryz.prog 13 #[.pointer (some ⟨b, 0, none⟩), .slice (some ⟨k', 0, none⟩) 2 2] W fun e w' => e = .returned (.tuple #[]) ∧ Hid (PenUsed w.heap.size b (L ++ lineW [wZone, s.name.data.toList]) w') ∧ Hid (PG w.heap.size b U w')) := Lib.hid fun W k' hW hk' =>
              (lineAt (ws := [Wd.s ⟨#[122, 111, 110, 101]⟩, Wd.s s.name]) (hp.out.kept (by rw [hU]; exact (Below.refl _ _).alloc (Nat.le_refl _) _)) hW ((HX.out _ HUG.out).2.1) ((HX.out _ HUG.out).2.2.1) hk' (by omega) (by simp) hok).mono fun e w' q => ⟨q.1, Lib.hid (by rw [← zone_words]; exact q.2.1), Lib.hid q.2.2⟩
            have hzl : (lineW [wZone, s.name.data.toList]).length ≤ 103 := by rw [← zone_words]; exact lineW_len hok
            have hz1 : 1 ≤ (lineW [wZone, s.name.data.toList]).length := by unfold lineW; simp
            clear hbw hmr hBr hok
            go_upto_region 18 with fail
            rw [← hU]
            clear x0 x1 x2 e0 e1 hU
            try rw [← hq]
            clear hq
            have c0 : U.cell? ⟨q, 0, none⟩ = some (.string s.name) := cell_of hUq rfl
            have HUQ := Lib.hid hUq
            clear hUq
            go_upto_region 19 with (go_at_call 13; (with_reducible refine (HLN.out _ _ ((Below.refl _ _).alloc (Nat.le_refl _) _) (heap_new ?hsz)).mono ?_); (case hsz => first | rfl | exact hUz); rintro e w2 ⟨rfl, hp2, hg2⟩)
            have q1 := hg2.out.block HUQ.out hqb (by decide)
            have e1 : w2.cell? ⟨q, 1, none⟩ = some (.slice s.A s.n s.cap) := cell_of q1 rfl
            have HG2 : Hid (PG w.heap.size b W0 w2) := Lib.hid (HUG.out.trans hg2.out)
            have HP2 : Hid (PenIs w.heap.size b (L ++ lineW [wZone, s.name.data.toList]) w2) := Lib.hid hp2.out.is
            have HE2 : Hid (L ++ lineW [wZone, s.name.data.toList] = textW ((shownZ Lib.itoa (cnOf d) k ++ [[wZone, s.name.data.toList]]) ++ (s.es.take 0).map (fun r => eraW Lib.itoa (cnE r)))) := Lib.hid (by rw [List.take_zero, List.map_nil, List.append_nil, text_snoc, hE.out])
            clear c0 q1 hp hg hE HLN HUG HUQ hp2 hg2
            go_wp2_with fail
            clear e1
            go_loopw [98] (fun b98 wr => ∃ (i : Nat) (T : Bt), i ≤ s.n ∧ b98 = .int .i64 i ∧ T.length ≤ 9000 + 3000 * k + 103 + 310 * i ∧ 1 ≤ T.length ∧ Hid (T = textW ((shownZ Lib.itoa (cnOf d) k ++ [[wZone, s.name.data.toList]]) ++ (s.es.take i).map (fun r => eraW Lib.itoa (cnE r)))) ∧ Hid (PenIs w.heap.size b T wr) ∧ Hid (PG w.heap.size b W0 wr)) (fun b98 _ => s.n - (intOf b98).toNat)
            case atStart => exact ⟨0, _, Nat.zero_le _, rfl, by rw [List.length_append]; omega, by rw [List.length_append]; omega, HE2, HP2, HG2⟩
            case round =>
              clear HE2 HP2 HG2 hL hzl hz1
              obtain ⟨i, T, hi, rfl, hT, hT1, hE, hp, hg⟩ := hrel
              obtain ⟨hbw, hmr, hBr, x0, x1, x2⟩ := HX.out _ hg.out
              clear x0 x1 x2
              by_cases hit : i < s.n
              · obtain ⟨f, g, r, hA2, _, hr, _, hrc⟩ := eras_get HIN.out hit
                obtain ⟨hn4, hle⟩ := HRR.out r (List.mem_of_getElem? hr)
                obtain ⟨r0, r1, r2, r3, r4⟩ := hrc _ hbw
                rw [hA2]
                have HA2 := Lib.hid hA2
                have HE3 : Hid (T ++ lineW (eraW Lib.itoa (cnE r)) = textW ((shownZ Lib.itoa (cnOf d) k ++ [[wZone, s.name.data.toList]]) ++ (s.es.take (i + 1)).map (fun r => eraW Lib.itoa (cnE r)))) := Lib.hid (by rw [shown_era (c := cnOf d) hr, text_snoc, hE.out])
                obtain ⟨U, hU⟩ : ∃ U, U = wr.alloc (.cells #[.int .i64 r.std, .int .i64 r.set, .int .i64 r.save, .string r.fmt, .int .i64 r.til] 59) := ⟨_, rfl⟩
                obtain ⟨p, hpp⟩ : ∃ p, p = wr.heap.size := ⟨_, rfl⟩
                have hUz : U.heap.size = p + 1 := by rw [hU, hpp]; simp
                have hpb : p ≠ b := by have := hp.out.lt.1; omega
                have hUp : U.heap[p]? = some (.cells #[.int .i64 r.std, .int .i64 r.set, .int .i64 r.save, .string r.fmt, .int .i64 r.til] 59) := by rw [hU, hpp]; exact World.alloc_heap_new wr _
                have HUG : Hid (PG w.heap.size b W0 U) := Lib.hid (by rw [hU]; exact hg.out.alloc HBW.out.size _)
                have hwd : [Wd.s ⟨#[101, 114, 97]⟩, Wd.n r.std, Wd.n r.set, Wd.n r.save, Wd.s r.fmt, Wd.n r.til].map wdB = (eraW Lib.itoa (cnE r)) := era_words r
                have hok : ∀ x ∈ [Wd.s ⟨#[101, 114, 97]⟩, Wd.n r.std, Wd.n r.set, Wd.n r.save, Wd.s r.fmt, Wd.n r.til], wdOk x := (by
                  intro x hx
                  simp only [List.mem_cons, List.not_mem_nil, or_false] at hx
                  rcases hx with rfl | rfl | rfl | rfl | rfl | rfl
                  · exact (by decide : (3 : Nat) ≤ 50)
                  · exact hn4.1
                  · exact hn4.2.1
                  · exact hn4.2.2.1
                  · exact Nat.le_trans hle (by decide)
                  · exact hn4.2.2.2)
                have HLN : Hid (∀ W k', Below U.heap.size U W → W.heap[k']? = some (.cells #[.iface 9 (.string ⟨#[101, 114, 97]⟩), .iface 3 (.int .i64 r.std), .iface 3 (.int .i64 r.set), .iface 3 (.int .i64 r.save), .iface 9 (.string r.fmt), .iface 3 (.int .i64 r.til)] 20) → Calls Tryz.prog 13 #[.pointer (some ⟨b, 0, none⟩), .slice (some ⟨k', 0, none⟩) 6 6] W fun e w' => e = .returned (.tuple #[]) ∧ Hid (PenUsed w.heap.size b (T ++ lineW (eraW Lib.itoa (cnE r))) w') ∧ Hid (PG w.heap.size b U w')) := Lib.hid fun W k' hW hk' =>
                  (lineAt (ws := [Wd.s ⟨#[101, 114, 97]⟩, Wd.n r.std, Wd.n r.set, Wd.n r.save, Wd.s r.fmt, Wd.n r.til]) (hp.out.kept (by rw [hU]; exact (Below.refl _ _).alloc (Nat.le_refl _) _)) hW ((HX.out _ HUG.out).2.1) ((HX.out _ HUG.out).2.2.1) hk' (by omega) (by simp) hok).mono fun e w' q => ⟨q.1, Lib.hid (by rw [← hwd]; exact q.2.1), Lib.hid q.2.2⟩
                have hzl : (lineW (eraW Lib.itoa (cnE r))).length ≤ 307 := by rw [← hwd]; exact lineW_len hok
                clear hbw hmr hBr hok hwd hrc hr hE hA2 hn4 hle
                have HKEEP : Hid (∀ W : World, W.heap[p]? = some (.cells #[.int .i64 r.std, .int .i64 r.set, .int .i64 r.save, .string r.fmt, .int .i64 r.til] 59) → W.cell? ⟨p, 0, none⟩ = some (.int .i64 r.std) ∧ W.cell? ⟨p, 1, none⟩ = some (.int .i64 r.set) ∧ W.cell? ⟨p, 2, none⟩ = some (.int .i64 r.save) ∧ W.cell? ⟨p, 3, none⟩ = some (.string r.fmt) ∧ W.cell? ⟨p, 4, none⟩ = some (.int .i64 r.til)) := Lib.hid fun W h => ⟨cell_of h rfl, cell_of h rfl, cell_of h rfl, cell_of h rfl, cell_of h rfl⟩
                go_upto_region 22 with fail
                rw [← hU]
                clear r0 r1 r2 r3 r4 hU
                try rw [← hpp]
                clear hpp
                obtain ⟨c0, c1, c2, c3, c4⟩ := HKEEP.out _ hUp
                clear hUp
                go_upto_region 23 with (go_at_call 13; (with_reducible refine (HLN.out _ _ ((Below.refl _ _).alloc (Nat.le_refl _) _) (heap_new ?hsz)).mono ?_); (case hsz => first | rfl | exact hUz); rintro e w3 ⟨rfl, hp3, hg3⟩)
                clear c0 c1 c2 c3 c4
                go_wp2_with fail
                try rw [← HA2.out]
                go_roundw
                case rel => exact ⟨i + 1, T ++ lineW (eraW Lib.itoa (cnE r)), by omega, by go_num, by rw [List.length_append]; omega, by rw [List.length_append]; omega, HE3, Lib.hid hp3.out.is, Lib.hid (HUG.out.trans hg3.out)⟩
                case measure => simp [intOf] <;> omega
              · have HN : Hid (T = textW (shownZ Lib.itoa (cnOf d) (k + 1))) := Lib.hid (by rw [hE.out, HSA.out, List.take_of_length_le (by rw [HRL.out]; omega)])
                have hTz : T.length ≤ 9000 + 3000 * (k + 1) := by omega
                clear hE hbw hmr hBr
                go_wp2_with fail
                try rw [← HA.out]
                go_roundw
                case rel => exact ⟨k + 1, T, by omega, by go_num, hTz, HN, hp, hg, Lib.hid fun e => by rw [e] at hT1; exact absurd hT1 (by decide)⟩
                case measure => simp [intOf] <;> omega
          · have HS0 : Hid (L = textW (shownL Lib.itoa (cnOf d) 0)) := Lib.hid (by rw [hE.out, shownZ_end (by show (d.zs.map cnZ).length ≤ k; rw [List.length_map, HSL.out.2.1]; omega)])
            have hLz : L.length ≤ 24000 := by omega
            have HP1 := hp
            have HG1 := hg
            have HF1 := hf
            clear hE hbw hmr hBr hp hg hf hL
            go_wp2_with fail
            clear x0 x1 x2
            go_loopw [126] (fun b126 wr => ∃ (k : Nat) (L : Bt), k ≤ d.ln ∧ b126 = .int .i64 k ∧ L.length ≤ 24000 + 200 * k ∧ Hid (L = textW (shownL Lib.itoa (cnOf d) k)) ∧ Hid (PenIs w.heap.size b L wr) ∧ Hid (PG w.heap.size b W0 wr) ∧ Hid (L = [] → penFresh b wr)) (fun b126 _ => d.ln - (intOf b126).toNat)
            case atStart => exact ⟨0, L, Nat.zero_le _, rfl, by omega, HS0, HP1, HG1, HF1⟩
            case round =>
              clear HP1 HG1 HF1 HS0 hLz
              obtain ⟨k, L, hk, rfl, hL, hE, hp, hg, hf⟩ := hrel
              obtain ⟨hbw, hmr, hBr, x0, x1, x2⟩ := HX.out _ hg.out
              clear x0 x1 x2
              by_cases hlt : k < d.ln
              · clear hf
                obtain ⟨b', o, s, hA, hbB, hs, _, _, hcell⟩ := links_get HD.out.2.2.1 hlt
                obtain ⟨hn1, hn2⟩ := HK.out.links s (List.mem_of_getElem? hs)
                obtain ⟨e0, e1⟩ := hcell _ hbw
                have HE3 : Hid (L ++ lineW [wLink, s.name.data.toList, s.to.data.toList] = textW (shownL Lib.itoa (cnOf d) (k + 1))) := Lib.hid (by rw [shownL_all hs, text_snoc, hE.out])
                rw [hA]
                have HA := Lib.hid hA
                obtain ⟨U, hU⟩ : ∃ U, U = wr.alloc (.cells #[.string s.name, .string s.to] 61) := ⟨_, rfl⟩
                obtain ⟨q, hq⟩ : ∃ q, q = wr.heap.size := ⟨_, rfl⟩
                have hUz : U.heap.size = q + 1 := by rw [hU, hq]; simp
                have hUq : U.heap[q]? = some (.cells #[.string s.name, .string s.to] 61) := by rw [hU, hq]; exact World.alloc_heap_new wr _
                have HUG : Hid (PG w.heap.size b W0 U) := Lib.hid (by rw [hU]; exact hg.out.alloc HBW.out.size _)
                have hok : ∀ x ∈ [Wd.s ⟨#[108, 105, 110, 107]⟩, Wd.s s.name, Wd.s s.to], wdOk x := (by
                  intro x hx
                  simp only [List.mem_cons, List.not_mem_nil, or_false] at hx
                  rcases hx with rfl | rfl | rfl
                  · exact (by decide : (4 : Nat) ≤ 50)
                  · exact Nat.le_trans hn1 (by decide)
                  · exact Nat.le_trans hn2 (by decide))
                have HLN : Hid (∀ W k', Below U.heap.size U W → W.heap[k']? = some (.cells #[.iface 9 (.string ⟨#[108, 105, 110, 107]⟩), .iface 9 (.string s.name), .iface 9 (.string s.to)] 20) → Calls Tryz.prog 13 #[.pointer (some ⟨b, 0, none⟩), .slice (some ⟨k', 0, none⟩) 3 3] W fun e w' => e = .returned (.tuple #[]) ∧ Hid (PenUsed w.heap.size b (L ++ lineW [wLink, s.name.data.toList, s.to.data.toList]) w') ∧ Hid (PG w.heap.size b U w')) := Lib.hid fun W k' hW hk' =>
                  (lineAt (ws := [Wd.s ⟨#[108, 105, 110, 107]⟩, Wd.s s.name, Wd.s s.to]) (hp.out.kept (by rw [hU]; exact (Below.refl _ _).alloc (Nat.le_refl _) _)) hW ((HX.out _ HUG.out).2.1) ((HX.out _ HUG.out).2.2.1) hk' (by omega) (by simp) hok).mono fun e w' q => ⟨q.1, Lib.hid (by rw [← link_words]; exact q.2.1), Lib.hid q.2.2⟩
                have hzl : (lineW [wLink, s.name.data.toList, s.to.data.toList]).length ≤ 154 := by rw [← link_words]; exact lineW_len hok
                have hz1 : 1 ≤ (lineW [wLink, s.name.data.toList, s.to.data.toList]).length := by unfold lineW; simp
                clear hbw hmr hBr hok hA hcell hs hE
                go_upto_region 28 with fail
                rw [← hU]
                clear e0 e1 hU
                try rw [← hq]
                clear hq
                have c0 : U.cell? ⟨q, 0, none⟩ = some (.string s.name) := cell_of hUq rfl
                have c1 : U.cell? ⟨q, 1, none⟩ = some (.string s.to) := cell_of hUq rfl
                clear hUq
                go_upto_region 29 with (go_at_call 13; (with_reducible refine (HLN.out _ _ ((Below.refl _ _).alloc (Nat.le_refl _) _) (heap_new ?hsz)).mono ?_); (case hsz => first | rfl | exact hUz); rintro e w2 ⟨rfl, hp2, hg2⟩)
                clear c0 c1
                go_wp2_with fail
                try rw [← HA.out]
                go_roundw
                case rel => exact ⟨k + 1, L ++ lineW [wLink, s.name.data.toList, s.to.data.toList], by omega, by go_num, by rw [List.length_append]; omega, HE3, Lib.hid hp2.out.is, Lib.hid (HUG.out.trans hg2.out), Lib.hid fun e => by have := congrArg List.length e; rw [List.length_append, List.length_nil] at this; omega⟩
                case measure => simp [intOf] <;> omega
              · have HQ : Hid (R = Bs L) := Lib.hid (by rw [HR.out, HT.out, hE.out, shownL_end (by show (d.ls.map cnL).length ≤ k; rw [List.length_map, HSL.out.2.2]; omega)]; rfl)
                have TX : Hid (Calls Tryz.prog 15 #[.pointer (some ⟨b, 0, none⟩)] wr fun e w' => e = .returned (.string R) ∧ Below w.heap.size w w') := Lib.hid (by
                  rw [HQ.out]
                  by_cases h : L = []
                  · have hfr := hf.out h
                    rw [h]
                    exact (penText_none w.heap.size b wr hfr).mono fun e w' q => ⟨q.1, hbw.trans q.2⟩
                  · exact (penText_some w.heap.size b L wr hp.out h).mono fun e w' q => ⟨q.1, hbw.trans q.2⟩)
                clear hE hbw hmr hBr hp hg hf HQ
                go_wp2_with (go_at_call 15; (with_reducible refine TX.out.mono ?_); rintro e w2 ⟨rfl, hw2⟩)
                go_ret2
                exact ⟨rfl, hw2⟩
  · have HT : Hid (shewT d = ⟨#[]⟩) := Lib.hid (by unfold shewT; rw [if_neg (fun e => h0 (HE.out.trans e))])
    rw [HT.out]
    have h1 : (E != 0) = true := by simp [h0]
    go_enter Tryz.func5, Tryz.ntmps5
    go_upto_region 1 with fail
    rw [← hV]
    clear hV
    go_wp2_with (go_at_call 12; (with_reducible refine CK.out.mono ?_); rintro e w1 ⟨rfl, hb1⟩)
    go_ret2
    exact ⟨rfl, HVB.out.trans (hb1.mono HVB.out.size)⟩
end Go.Proofs.YthhjgndaiimgjaaGreatDoor
end
