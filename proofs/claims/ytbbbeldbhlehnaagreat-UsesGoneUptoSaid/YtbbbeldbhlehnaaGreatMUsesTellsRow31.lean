/- Parts of a proof, laid together. -/
import Derived.Deep.AppendLies
import Derived.Deep.RegionLaw
import Derived.BigRegion
import Derived.Deep.RegionHeld3
import Derived.Test.YtbbbeldbhlehnaaGreatMUsesTellsRow30
import Derived.Test.YtbbbeldbhlehnaaGreatMUsesTellsRow29
import Derived.Test.YtbbbeldbhlehnaaGreatMUsesTellsRow13
import Derived.Test.YtbbbeldbhlehnaaGreatMUsesTellsRow11
set_option linter.unusedSimpArgs false
set_option linter.unusedVariables false
/-! gnomonref.CheckData: the links' names. -/
section
set_option linter.unusedVariables false
set_option linter.unusedSimpArgs false
namespace Go.Proofs.YtbbbeldbhlehnaaGreat
open Go.RowKit Gno
theorem below_drew' {B : Nat} {w w' : World} (h : Below B w w') : Below B w w'.drew := ⟨h.os, h.tape, h.output, h.size, h.block⟩
theorem own_drew {w : World} {B : Nat} {e : TypeId} {sz : Nat} {v : Value} {n : Nat} {xs : List Value} (h : w.ownsRow B e sz v n xs) : w.drew.ownsRow B e sz v n xs := h
theorem near_of {w : World} {v : Value} {g n cap H : Nat} (h : v.ownBlock = some g ∨ g = H) (hH : w.heap.size = H) : NearOr w v (.slice (some ⟨g, 0, none⟩) n cap) := by
  rcases h with h | h
  · exact .inl h.symm
  · exact .inr fun k hk => by simp [Value.ownBlock] at hk; omega
set_option maxRecDepth 100000 in
set_option maxHeartbeats 8000000 in
theorem rt6 {d : Dt} {w W : World} {a : Act} {K : Act → World → Prop} {v3 v4 v7 : Value} {B4 B7 : Nat} (hD : DataAt w w.heap.size d) (hM : manyD d = false) (hL : LiveR d w [(3, v3), (4, v4), (7, v7)] a W)
    (h4 : W.ownsRow B4 9 1 v4 d.zn (strs (zNames d))) (h7 : W.ownsRow B7 9 1 v7 (d.sn + d.zn) (strs (sNames d ++ zNames d))) (h47 : Apart v4 v7)
    (hB0 : w.heap.size + 1 ≤ B4) (hB4 : B4 ≤ B7) (hB7 : B7 ≤ W.heap.size)
    (hK : ∀ a' W' v4 v7, LiveR d w [(3, v3), (4, v4), (7, v7)] a' W' → SlB W' W'.heap.size (d.zn + d.ln) (zNames d ++ lNames d) v4 → SlB W' W'.heap.size (d.sn + d.zn + 2 * d.ln) (allR d) v7 → Below B4 W W' → K a' W') :
    (stmR 6).wp Tryz.prog (Exit.then K (QR d w)) a W := by
  obtain ⟨f, rfl, hws⟩ := openR3 hL
  clear hL
  obtain ⟨i0, hi0, hz0, hz1, hz2⟩ := info_parts infoStr
  have hI := Lib.hid hi0
  have hZ0 := Lib.hid hz0
  have hZ1 := Lib.hid hz1
  have hZ2 := Lib.hid hz2
  clear hi0 hz0 hz1 hz2
  have HW := Lib.hid hws
  have HK := Lib.hid hK
  have hle := manyD_le hM
  have hs1 : d.sn ≤ 3 := hle.1
  have hs2 : d.zn ≤ 5 := hle.2.1
  have hs3 : d.ln ≤ 4 := hle.2.2
  have hsz := hws.size
  have HD := Lib.hid hD.2.2.1
  have hn : d.ln ≤ 100 := by omega
  have HLE := Lib.hid HD.out.1
  have H7 := Lib.hid h7
  have HWR : Hid (∀ W', Below B4 W W' → WR d w W') := Lib.hid (fun W' hb =>
    ⟨hws.below.trans (hb.mono (by omega)), (hb.block _ (by omega)).trans hws.d0, by have := hb.size; omega⟩)
  clear hws hK hD hM hle h7
  conv => arg 2; whnf
  go_wp2
  go_loopw [4, 7, 8] (fun b4 b7 b wr => ∃ i : Nat, i ≤ d.ln ∧ b = .int .i64 i ∧ wr.ownsRow B4 9 1 b4 (d.zn + i) (strs (zNames d ++ (lNames d).take i)) ∧
    wr.ownsRow B7 9 1 b7 (d.sn + d.zn + 2 * i) (strs (sNames d ++ zNames d ++ (d.ls.take i).flatMap linkTexts)) ∧ Hid (Apart b4 b7) ∧ Below B4 W wr) (fun _ _ b _ => d.ln - (intOf b).toNat)
  case atStart => exact ⟨0, Nat.zero_le _, rfl, by simpa using h4, by simpa using H7.out, Lib.hid h47, Below.refl _ _⟩
  case round =>
    obtain ⟨i, hi, rfl, hown4, hown7, hap, hb⟩ := hrel
    obtain ⟨c0, c1, c2⟩ := (HWR.out _ hb).cells
    have hwz := hb.size
    by_cases hit : i < d.ln
    · obtain ⟨b, o, q, hA, hbB, hq, hq1, hq1', hq2⟩ := links_get HD.out hit
      obtain ⟨e0, e1⟩ := hq2 _ (HWR.out _ hb).below
      have HA := Lib.hid hA
      rw [hA] at c2
      have HT4 : Hid (strs (zNames d ++ (lNames d).take (i + 1)) = strs (zNames d ++ (lNames d).take i) ++ [.string q.name]) := Lib.hid (by
        have h1 : (lNames d)[i]? = some q.name := by simp [lNames, hq]
        rw [take_snoc' h1]; simp [strs])
      have HT7 : Hid (strs (sNames d ++ zNames d ++ (d.ls.take (i + 1)).flatMap linkTexts) = strs (sNames d ++ zNames d ++ (d.ls.take i).flatMap linkTexts) ++ [.string q.name, .string q.to]) := Lib.hid (by
        rw [take_snoc' hq]; simp [strs, linkTexts])
      have HC : Hid (∀ w1, Below B4 W w1 → w1.cell? ⟨w.heap.size, 2, none⟩ = some (.slice (some ⟨b, o, none⟩) d.ln d.lc) ∧ w1.cell? ⟨b, o + i * 2, none⟩ = some (.string q.name) ∧ w1.cell? ⟨b, o + i * 2 + 1, none⟩ = some (.string q.to)) := Lib.hid (fun w1 h1 =>
        ⟨by rw [← HA.out]; exact (HWR.out _ h1).cells.2.2, hq2 _ (HWR.out _ h1).below⟩)
      clear hq hq2 hA hq1 hq1'
      go_wp2_with (
        (at_builtin; go_must (refine wpList_app2 rfl _ _ 31 rfl B4 9 (.string ⟨#[]⟩) 1 16 Tryz.underlying31 infoStr rfl (by decide) _ (d.zn + i) _ rfl (hown4.alloc (.cells #[.string q.name] 9)) ⟨wr.heap.size, 0, none⟩ 1 1 [.string q.name] rfl rfl (laid_at (cs := #[.string q.name])) (by intro u hu; simp at hu; subst hu; rfl) (by unfold maxLen; omega) (by omega) (by simp; omega) ?_); intro v' w1 hown4' hg1 hn1))
      obtain ⟨hown7', hap'⟩ := own_apart (hown7.alloc (.cells #[.string q.name] 9)) hg1 hap.out hn1
      have hb1 : Below B4 W w1 := (hb.alloc (by omega) (.cells #[.string q.name] 9)).grown hg1 (by simp; omega) (fun k hk => ((hown4.alloc (.cells #[.string q.name] 9)).lt k hk).1)
      obtain ⟨k2, m0, m1⟩ := HC.out _ hb1
      have HAP := Lib.hid hap'
      clear hap' hap hg1 hn1 hown7 hown4 c0 c1 c2 e0 e1
      have HO7 : Hid ((w1.alloc (.cells #[.string q.name, .string q.to] 9)).ownsRow B7 9 1 u7 (d.sn + d.zn + 2 * i) (strs (sNames d ++ zNames d ++ (d.ls.take i).flatMap linkTexts))) := Lib.hid (hown7'.alloc _)
      have HO4 : Hid ((w1.alloc (.cells #[.string q.name, .string q.to] 9)).ownsRow B4 9 1 v' (d.zn + i + 1) (strs (zNames d ++ (lNames d).take i) ++ [.string q.name])) := Lib.hid (hown4'.alloc _)
      have HLA : Hid (∀ j u, [Value.string q.name, .string q.to][j]? = some u → (w1.alloc (.cells #[.string q.name, .string q.to] 9)).cell? ((⟨w1.heap.size, 0, none⟩ : Addr).add j) = some u) := Lib.hid (laid_at (cs := #[.string q.name, .string q.to]))
      have HB1 : Hid (Below B4 W (w1.alloc (.cells #[.string q.name, .string q.to] 9))) := Lib.hid (hb1.alloc (by have := hb1.size; omega) _)
      have hz1 := hb1.size
      clear hown4' hown7' hb1
      go_region_law (refine step_append_lies _ rfl _ _ 31 rfl B7 9 i0 (.string ⟨#[]⟩) 1 16 Tryz.underlying31 hI.out hZ0.out hZ1.out hZ2.out rfl (by decide) u7 (d.sn + d.zn + 2 * i) _ rfl HO7.out ⟨w1.heap.size, 0, none⟩ 2 2 [.string q.name, .string q.to] rfl rfl HLA.out (by intro u hu; simp at hu; rcases hu with rfl | rfl <;> rfl) (by decide) (by unfold maxLen; omega) (by omega) (by simp; omega) _ rfl ?_; intro g cap w3 hown7f hg2 hat hlt)
      all_goals
        have hnear := near_of (n := d.sn + d.zn + 2 * i + 2) (cap := cap) hat rfl
        have hAP := fun h2 => own_apart (v2 := v') (B2 := B4) (n2 := d.zn + i + 1) (xs2 := strs (zNames d ++ (lNames d).take i) ++ [.string q.name]) (e := 9) (sz := 1) h2 hg2 HAP.out.symm hnear
        obtain ⟨hown4f, hap2⟩ := hAP HO4.out
        have hb3 : Below B4 W w3 := (show Below B4 W _ from below_drew' HB1.out).grown hg2 (by simp; omega) (fun k hk => by have := (HO7.out.lt k hk).1; omega)
        have HAP2 := Lib.hid hap2.symm
        clear hap2 hg2 hat hlt hnear hAP
        go_wp2
        go_roundw
        case rel => exact ⟨i + 1, by omega, by go_num, by rw [HT4.out]; exact hown4f, by rw [HT7.out]; exact hown7f, HAP2, hb3⟩
        case measure => simp [intOf]; omega
    · have hin : i = d.ln := by omega
      have hX4 : SlB wr wr.heap.size (d.zn + d.ln) (zNames d ++ lNames d) u4 := by
        have h1 := hown4
        rw [List.take_of_length_le (by unfold lNames; rw [List.length_map, HLE.out]; omega), hin] at h1
        exact own_SlB h1 (by unfold maxLen; omega)
      have hX7 : SlB wr wr.heap.size (d.sn + d.zn + 2 * d.ln) (allR d) u7 := by
        have h1 := hown7
        rw [List.take_of_length_le (by rw [HLE.out]; omega), hin] at h1
        exact own_SlB h1 (by unfold maxLen; omega)
      have HX4 := Lib.hid hX4
      have HX7 := Lib.hid hX7
      clear hX4 hX7 hown4 hown7 hap hin
      go_wp2
      exact HK.out _ _ _ _ ⟨rfl, ⟨rfl, rfl, rfl, rfl, trivial⟩, rfl, HWR.out _ hb⟩ HX4.out HX7.out hb
end Go.Proofs.YtbbbeldbhlehnaaGreat
end
/-! gnomonref.CheckData: the links' aims; the whole. -/
section
set_option linter.unusedVariables false
set_option linter.unusedSimpArgs false
namespace Go.Proofs.YtbbbeldbhlehnaaGreat
open Go.RowKit Gno
set_option maxRecDepth 100000 in
set_option maxHeartbeats 8000000 in
theorem rt12 {d : Dt} {w W : World} {a : Act} {K : Act → World → Prop} (hD : DataAt w w.heap.size d) (hE : dataE d = dE9 d) (hL : LiveR d w [] a W)
    (hK : ∀ a' W', anyI (fun _ => noTo d) (lTos d) = false → LiveR d w [] a' W' → K a' W') :
    (stmR 12).wp Tryz.prog (Exit.then K (QR d w)) a W := by
  obtain ⟨f, rfl, hws⟩ := openR0 hL
  clear hL
  have HW := Lib.hid hws
  have HK := Lib.hid hK
  have HE := Lib.hid hE
  have hsz := hws.size
  have HD := Lib.hid ((hD.next hws.below).2.2.1)
  have hn : d.ln ≤ 9223372036854775807 := HD.out.2.1
  have HLE : Hid ((lTos d).length = d.ln) := Lib.hid (by rw [← HD.out.1]; simp [lNames, lTos])
  have HDN : Hid (∀ w', Below W.heap.size W w' → DataAt w' w'.heap.size d) := Lib.hid (fun w' h => hD.next (hws.step h).below)
  have CZ : Hid (∀ s w' (A : Prop), (Below W.heap.size W w' ∧ A) → Calls Tryz.prog 42 #[.agg #[.slice d.sA d.sn d.sc, .slice d.zA d.zn d.zc, .slice d.lA d.ln d.lc], .string s] w' fun e w2 => e = .returned (.int .i64 (zoneN d s)) ∧ Below W.heap.size W w2) := Lib.hid (fun s w' A h =>
    (zoneN_any d s w' (HDN.out _ h.1)).mono fun _ _ h2 => ⟨h2.1, h.1.trans (h2.2.mono h.1.size)⟩)
  have CL : Hid (∀ s w' (A : Prop), (Below W.heap.size W w' ∧ A) → Calls Tryz.prog 58 #[.agg #[.slice d.sA d.sn d.sc, .slice d.zA d.zn d.zc, .slice d.lA d.ln d.lc], .string s] w' fun e w2 => e = .returned (.int .i64 (linkN d s)) ∧ Below W.heap.size W w2) := Lib.hid (fun s w' A h =>
    (linkN_any d s w' (HDN.out _ h.1)).mono fun _ _ h2 => ⟨h2.1, h.1.trans (h2.2.mono h.1.size)⟩)
  have CF : Hid (∀ s w' (A : Prop), (Below W.heap.size W w' ∧ A) → Calls Tryz.prog 21 #[.agg #[.slice d.sA d.sn d.sc, .slice d.zA d.zn d.zc, .slice d.lA d.ln d.lc], .string s] w' fun e w2 => e = .returned (.int .i64 (leadN d s)) ∧ Below W.heap.size W w2) := Lib.hid (fun s w' A h =>
    (follow_any d s w' (HDN.out _ h.1)).mono fun _ _ h2 => ⟨h2.1, h.1.trans (h2.2.mono h.1.size)⟩)
  clear hws hK hE hD
  conv => arg 2; whnf
  go_wp2
  go_loopw [19] (fun b wr => ∃ i : Nat, i ≤ d.ln ∧ b = .int .i64 i ∧ Hid (anyTo (atI (fun _ => noTo d) (lTos d)) i = false) ∧ Below W.heap.size W wr) (fun b _ => d.ln - (intOf b).toNat)
  case atStart => exact ⟨0, Nat.zero_le _, rfl, Lib.hid rfl, Below.refl _ _⟩
  case round =>
    obtain ⟨i, hi, rfl, hfi, hb⟩ := hrel
    by_cases hit : i < d.ln
    · obtain ⟨b, o, q, hA, hbB, hq, hq1, hq1', hq2⟩ := links_get HD.out hit
      have HQ := Lib.hid hq
      have HA := Lib.hid hA
      have HC : Hid (∀ w1, Below W.heap.size W w1 → w1.cell? ⟨w.heap.size, 0, none⟩ = some (.slice d.sA d.sn d.sc) ∧ w1.cell? ⟨w.heap.size, 1, none⟩ = some (.slice d.zA d.zn d.zc) ∧ w1.cell? ⟨w.heap.size, 2, none⟩ = some (.slice (some ⟨b, o, none⟩) d.ln d.lc) ∧ w1.cell? ⟨b, o + i * 2, none⟩ = some (.string q.name) ∧ w1.cell? ⟨b, o + i * 2 + 1, none⟩ = some (.string q.to)) := Lib.hid (fun w1 h1 =>
        ⟨(HW.out.step h1).cells.1, (HW.out.step h1).cells.2.1, by rw [← HA.out]; exact (HW.out.step h1).cells.2.2, hq2 _ h1⟩)
      rw [hA] at CZ CL CF
      clear hq hq2 hA hq1 hq1'
      obtain ⟨c0, c1, c2, e0, e1⟩ := HC.out _ hb
      have HQT : Hid ((lTos d)[i]? = some q.to) := Lib.hid (by simp [lTos, HQ.out])
      by_cases hz : 0 ≤ zoneN d q.to
      · have g1 : decide (zoneN d q.to < 0) = false := by simp; omega
        have HM := Lib.hid (anyI_no (p := fun _ => noTo d) HQT.out hfi.out (by unfold noTo; rw [zoneN_has, decide_eq_true hz]; rfl))
        clear hz hfi
        have CZ2 : Hid (∀ w', Below W.heap.size W w' → Calls Tryz.prog 42 #[.agg #[.slice d.sA d.sn d.sc, .slice d.zA d.zn d.zc, .slice (some ⟨b, o, none⟩) d.ln d.lc], .string q.to] w' fun e w2 => e = .returned (.int .i64 (zoneN d q.to)) ∧ Below W.heap.size W w2) := Lib.hid (fun w' h => CZ.out q.to w' True ⟨h, trivial⟩)
        go_wp2
        refine wp_region_held_drew (S := (fun w' => Below W.heap.size W w' ∧ w'.cell? ⟨w.heap.size, 0, none⟩ = some (.slice d.sA d.sn d.sc) ∧ w'.cell? ⟨w.heap.size, 1, none⟩ = some (.slice d.zA d.zn d.zc) ∧ w'.cell? ⟨w.heap.size, 2, none⟩ = some (.slice (some ⟨b, o, none⟩) d.ln d.lc) ∧ w'.cell? ⟨b, o + i * 2, none⟩ = some (.string q.name) ∧ w'.cell? ⟨b, o + i * 2 + 1, none⟩ = some (.string q.to))) (by kernel_rfl) ?_ (fun hHeld => ?_)
        · (refine ⟨?_, ?_, ?_, ?_, ?_, ?_⟩ <;> (first | assumption | exact Below.drew (by assumption) | go_keep))
        refine wpAnyH_take (i := 0) (oi := _) (v := ?_) rfl (by kernel_rfl) (by kernel_rfl) (by kernel_rfl) (fun _ _ _ h => h) (Or.inl ⟨by rfl, ?_⟩) (by assumption) ?_
        rotate_left
        · intro w hSw; (try dsimp only at hSw); (go_simp <;> with_reducible rfl)
        simp only [List.getElem_toArray, List.getElem_cons_zero, List.getElem_cons_succ, Act.put, List.setIfInBounds_toArray, List.set_cons_zero, List.set_cons_succ]
        refine wpAnyH_take (i := 1) (oi := _) (v := ?_) rfl (by kernel_rfl) (by kernel_rfl) (by kernel_rfl) (fun _ _ _ h => h) (Or.inl ⟨by rfl, ?_⟩) (by assumption) ?_
        rotate_left
        · intro w hSw; (try dsimp only at hSw); (go_simp <;> with_reducible rfl)
        simp only [List.getElem_toArray, List.getElem_cons_zero, List.getElem_cons_succ, Act.put, List.setIfInBounds_toArray, List.set_cons_zero, List.set_cons_succ]
        refine wpAnyH_take (i := 2) (oi := _) (v := ?_) rfl (by kernel_rfl) (by kernel_rfl) (by kernel_rfl) (fun _ _ _ h => h) (Or.inl ⟨by rfl, ?_⟩) (by assumption) ?_
        rotate_left
        · intro w hSw; (try dsimp only at hSw); (go_simp <;> with_reducible rfl)
        simp only [List.getElem_toArray, List.getElem_cons_zero, List.getElem_cons_succ, Act.put, List.setIfInBounds_toArray, List.set_cons_zero, List.set_cons_succ]
        refine wpAnyH_take (i := 3) (oi := _) (v := ?_) rfl (by kernel_rfl) (by kernel_rfl) (by kernel_rfl) (fun _ _ _ h => h) (Or.inl ⟨by rfl, ?_⟩) (by assumption) ?_
        rotate_left
        · intro w hSw; (try dsimp only at hSw); (go_simp <;> with_reducible rfl)
        simp only [List.getElem_toArray, List.getElem_cons_zero, List.getElem_cons_succ, Act.put, List.setIfInBounds_toArray, List.set_cons_zero, List.set_cons_succ]
        refine wpAnyH_take (i := 4) (oi := _) (v := ?_) rfl (by kernel_rfl) (by kernel_rfl) (by kernel_rfl) (fun _ _ _ h => h) (Or.inl ⟨by rfl, ?_⟩) (by assumption) ?_
        rotate_left
        · intro w hSw; (try dsimp only at hSw); (go_simp <;> with_reducible rfl)
        simp only [List.getElem_toArray, List.getElem_cons_zero, List.getElem_cons_succ, Act.put, List.setIfInBounds_toArray, List.set_cons_zero, List.set_cons_succ]
        refine wpAnyH_take (i := 5) (oi := _) (v := ?_) rfl (by kernel_rfl) (by kernel_rfl) (by kernel_rfl) (fun _ _ _ h => h) (Or.inl ⟨by rfl, ?_⟩) (by assumption) ?_
        rotate_left
        · intro w hSw; (try dsimp only at hSw); (go_simp <;> with_reducible rfl)
        simp only [List.getElem_toArray, List.getElem_cons_zero, List.getElem_cons_succ, Act.put, List.setIfInBounds_toArray, List.set_cons_zero, List.set_cons_succ]
        refine wpAnyH_take (i := 6) (oi := _) (v := ?_) rfl (by kernel_rfl) (by kernel_rfl) (by kernel_rfl) (fun _ _ _ h => h) (Or.inl ⟨by rfl, ?_⟩) (by assumption) ?_
        rotate_left
        · intro w hSw; (try dsimp only at hSw); (go_simp <;> with_reducible rfl)
        simp only [List.getElem_toArray, List.getElem_cons_zero, List.getElem_cons_succ, Act.put, List.setIfInBounds_toArray, List.set_cons_zero, List.set_cons_succ]
        refine wpAnyH_ready (rs := [7]) (by kernel_rfl) (by simp) ?_
        refine AllReadyH.cons (o := _) rfl (fun K hK => ?_) AllReadyH.nil
        simp only [List.getElem_toArray, List.getElem_cons_zero, List.getElem_cons_succ]
        go_simp
        refine (CZ2.out _ hHeld.1).mono ?_
        rintro e w4 ⟨rfl, hb5⟩
        obtain ⟨k0, k1, k2, k3, k4⟩ := HC.out _ hb5
        go_wp2_with fail
        refine hK.out _ _ ?_ (fun hHeld => ?_)
        · (refine ⟨?_, ?_, ?_, ?_, ?_, ?_⟩ <;> (first | assumption | exact Below.drew (by assumption) | go_keep))
        clear hK K
        refine wpAnyH_take (i := 8) (oi := _) (v := ?_) rfl (by kernel_rfl) (by kernel_rfl) (by kernel_rfl) (fun _ _ _ h => h) (Or.inl ⟨by rfl, ?_⟩) (by assumption) ?_
        rotate_left
        · intro w hSw; (try dsimp only at hSw); (go_simp <;> with_reducible rfl)
        simp only [List.getElem_toArray, List.getElem_cons_zero, List.getElem_cons_succ, Act.put, List.setIfInBounds_toArray, List.set_cons_zero, List.set_cons_succ]
        refine wpAnyH_take (i := 9) (oi := _) (v := ?_) rfl (by kernel_rfl) (by kernel_rfl) (by kernel_rfl) (fun _ _ _ h => h) (Or.inl ⟨by rfl, ?_⟩) (by assumption) ?_
        rotate_left
        · intro w hSw; (try dsimp only at hSw); (go_simp <;> with_reducible rfl)
        simp only [List.getElem_toArray, List.getElem_cons_zero, List.getElem_cons_succ, Act.put, List.setIfInBounds_toArray, List.set_cons_zero, List.set_cons_succ]
        refine wpAnyH_take (i := 10) (oi := _) (v := undef) rfl (by kernel_rfl) (by kernel_rfl) (by kernel_rfl) (fun _ _ _ h => h) (Or.inr ⟨by rfl, rfl⟩) (by assumption) ?_
        simp only [List.getElem_toArray, List.getElem_cons_zero, List.getElem_cons_succ, Act.put, List.setIfInBounds_toArray, List.set_cons_zero, List.set_cons_succ]
        refine wpAnyH_take (i := 11) (oi := _) (v := undef) rfl (by kernel_rfl) (by kernel_rfl) (by kernel_rfl) (fun _ _ _ h => h) (Or.inr ⟨by rfl, rfl⟩) (by assumption) ?_
        simp only [List.getElem_toArray, List.getElem_cons_zero, List.getElem_cons_succ, Act.put, List.setIfInBounds_toArray, List.set_cons_zero, List.set_cons_succ]
        refine wpAnyH_take (i := 12) (oi := _) (v := undef) rfl (by kernel_rfl) (by kernel_rfl) (by kernel_rfl) (fun _ _ _ h => h) (Or.inr ⟨by rfl, rfl⟩) (by assumption) ?_
        simp only [List.getElem_toArray, List.getElem_cons_zero, List.getElem_cons_succ, Act.put, List.setIfInBounds_toArray, List.set_cons_zero, List.set_cons_succ]
        refine wpAnyH_take (i := 13) (oi := _) (v := undef) rfl (by kernel_rfl) (by kernel_rfl) (by kernel_rfl) (fun _ _ _ h => h) (Or.inr ⟨by rfl, rfl⟩) (by assumption) ?_
        simp only [List.getElem_toArray, List.getElem_cons_zero, List.getElem_cons_succ, Act.put, List.setIfInBounds_toArray, List.set_cons_zero, List.set_cons_succ]
        refine wpAnyH_take (i := 14) (oi := _) (v := undef) rfl (by kernel_rfl) (by kernel_rfl) (by kernel_rfl) (fun _ _ _ h => h) (Or.inr ⟨by rfl, rfl⟩) (by assumption) ?_
        simp only [List.getElem_toArray, List.getElem_cons_zero, List.getElem_cons_succ, Act.put, List.setIfInBounds_toArray, List.set_cons_zero, List.set_cons_succ]
        refine wpAnyH_take (i := 15) (oi := _) (v := undef) rfl (by kernel_rfl) (by kernel_rfl) (by kernel_rfl) (fun _ _ _ h => h) (Or.inr ⟨by rfl, rfl⟩) (by assumption) ?_
        simp only [List.getElem_toArray, List.getElem_cons_zero, List.getElem_cons_succ, Act.put, List.setIfInBounds_toArray, List.set_cons_zero, List.set_cons_succ]
        refine wpAnyH_take (i := 16) (oi := _) (v := undef) rfl (by kernel_rfl) (by kernel_rfl) (by kernel_rfl) (fun _ _ _ h => h) (Or.inr ⟨by rfl, rfl⟩) (by assumption) ?_
        simp only [List.getElem_toArray, List.getElem_cons_zero, List.getElem_cons_succ, Act.put, List.setIfInBounds_toArray, List.set_cons_zero, List.set_cons_succ]
        refine wpAnyH_take (i := 17) (oi := _) (v := undef) rfl (by kernel_rfl) (by kernel_rfl) (by kernel_rfl) (fun _ _ _ h => h) (Or.inr ⟨by rfl, rfl⟩) (by assumption) ?_
        simp only [List.getElem_toArray, List.getElem_cons_zero, List.getElem_cons_succ, Act.put, List.setIfInBounds_toArray, List.set_cons_zero, List.set_cons_succ]
        refine wpAnyH_take (i := 18) (oi := _) (v := undef) rfl (by kernel_rfl) (by kernel_rfl) (by kernel_rfl) (fun _ _ _ h => h) (Or.inr ⟨by rfl, rfl⟩) (by assumption) ?_
        simp only [List.getElem_toArray, List.getElem_cons_zero, List.getElem_cons_succ, Act.put, List.setIfInBounds_toArray, List.set_cons_zero, List.set_cons_succ]
        refine wpAnyH_take (i := 19) (oi := _) (v := ?_) rfl (by kernel_rfl) (by kernel_rfl) (by kernel_rfl) (fun _ _ _ h => h) (Or.inl ⟨by rfl, ?_⟩) (by assumption) ?_
        rotate_left
        · intro w hSw; (try dsimp only at hSw); (go_simp <;> with_reducible rfl)
        simp only [List.getElem_toArray, List.getElem_cons_zero, List.getElem_cons_succ, Act.put, List.setIfInBounds_toArray, List.set_cons_zero, List.set_cons_succ]
        refine wpAnyH_done (by kernel_rfl) ?_ _
        go_wp2
        go_roundw
        case rel => exact ⟨i + 1, by omega, by go_num, HM, by assumption⟩
        case measure => simp [intOf]; omega
      · have g1 : decide (zoneN d q.to < 0) = true := by simp; omega
        by_cases hl : 0 ≤ linkN d q.to
        · have g2 : decide (linkN d q.to < 0) = false := by simp; omega
          have HM := Lib.hid (anyI_no (p := fun _ => noTo d) HQT.out hfi.out (by unfold noTo; rw [linkN_has, decide_eq_true hl]; simp))
          clear hz hl hfi
          go_wp2
          first | (go_region_held3 (fun w' => Below W.heap.size W w' ∧ w'.cell? ⟨w.heap.size, 0, none⟩ = some (.slice d.sA d.sn d.sc) ∧ w'.cell? ⟨w.heap.size, 1, none⟩ = some (.slice d.zA d.zn d.zc) ∧ w'.cell? ⟨w.heap.size, 2, none⟩ = some (.slice (some ⟨b, o, none⟩) d.ln d.lc) ∧ w'.cell? ⟨b, o + i * 2, none⟩ = some (.string q.name) ∧ w'.cell? ⟨b, o + i * 2 + 1, none⟩ = some (.string q.to))
            (refine ⟨?_, ?_, ?_, ?_, ?_, ?_⟩ <;> (first | assumption | exact Below.drew (by assumption) | go_keep))
            (first
              | (go_at_call 42; refine (CZ.out _ _ _ (by assumption)).mono ?_; rintro e w4 ⟨rfl, hb5⟩; obtain ⟨k0, k1, k2, k3, k4⟩ := HC.out _ hb5)
              | (go_at_call 58; refine (CL.out _ _ _ (by assumption)).mono ?_; rintro e w4 ⟨rfl, hb5⟩; obtain ⟨k0, k1, k2, k3, k4⟩ := HC.out _ hb5)
              | (go_at_call 21; refine (CF.out _ _ _ (by assumption)).mono ?_; rintro e w4 ⟨rfl, hb5⟩; obtain ⟨k0, k1, k2, k3, k4⟩ := HC.out _ hb5))) | fail
          go_wp2
          go_roundw
          case rel => exact ⟨i + 1, by omega, by go_num, HM, by assumption⟩
          case measure => simp [intOf]; omega
        · have g2 : decide (linkN d q.to < 0) = true := by simp; omega
          have HM : Hid (dataE d = 4) := Lib.hid (by
            rw [HE.out]; unfold dE9
            rw [if_pos (anyI_yes HQT.out (by unfold noTo; rw [zoneN_has, linkN_has, decide_eq_false hz, decide_eq_false hl]; rfl))])
          clear hz hl hfi
          go_wp2
          first | (go_region_held3 (fun w' => Below W.heap.size W w' ∧ w'.cell? ⟨w.heap.size, 0, none⟩ = some (.slice d.sA d.sn d.sc) ∧ w'.cell? ⟨w.heap.size, 1, none⟩ = some (.slice d.zA d.zn d.zc) ∧ w'.cell? ⟨w.heap.size, 2, none⟩ = some (.slice (some ⟨b, o, none⟩) d.ln d.lc) ∧ w'.cell? ⟨b, o + i * 2, none⟩ = some (.string q.name) ∧ w'.cell? ⟨b, o + i * 2 + 1, none⟩ = some (.string q.to))
            (refine ⟨?_, ?_, ?_, ?_, ?_, ?_⟩ <;> (first | assumption | exact Below.drew (by assumption) | go_keep))
            (first
              | (go_at_call 42; refine (CZ.out _ _ _ (by assumption)).mono ?_; rintro e w4 ⟨rfl, hb5⟩; obtain ⟨k0, k1, k2, k3, k4⟩ := HC.out _ hb5)
              | (go_at_call 58; refine (CL.out _ _ _ (by assumption)).mono ?_; rintro e w4 ⟨rfl, hb5⟩; obtain ⟨k0, k1, k2, k3, k4⟩ := HC.out _ hb5)
              | (go_at_call 21; refine (CF.out _ _ _ (by assumption)).mono ?_; rintro e w4 ⟨rfl, hb5⟩; obtain ⟨k0, k1, k2, k3, k4⟩ := HC.out _ hb5))) | fail
          go_wp2
          go_ret
          exact ⟨ret_int HM.out.symm, (HW.out.step (by assumption)).below⟩
    · have HM := Lib.hid (anyI_end (by rw [HLE.out]; omega) (by rw [HLE.out]; exact hi) hfi.out)
      obtain ⟨c0, c1, c2⟩ := (HW.out.step hb).cells
      clear hfi
      go_wp2
      exact HK.out _ _ HM.out ⟨rfl, ⟨rfl, trivial⟩, rfl, HW.out.step hb⟩
set_option maxRecDepth 100000 in
set_option maxHeartbeats 8000000 in
theorem rt13 {d : Dt} {w W : World} {a : Act} {K : Act → World → Prop} (hD : DataAt w w.heap.size d) (hE : dataE d = dE10 d) (hL : LiveR d w [] a W)
    (hK : ∀ a' W', anyI (fun _ => noLead d) (lNames d) = false → LiveR d w [] a' W' → K a' W') :
    (stmR 13).wp Tryz.prog (Exit.then K (QR d w)) a W := by
  obtain ⟨f, rfl, hws⟩ := openR0 hL
  clear hL
  have HW := Lib.hid hws
  have HK := Lib.hid hK
  have HE := Lib.hid hE
  have hsz := hws.size
  have HD := Lib.hid ((hD.next hws.below).2.2.1)
  have hn : d.ln ≤ 9223372036854775807 := HD.out.2.1
  have HLE : Hid ((lNames d).length = d.ln) := Lib.hid (by rw [← HD.out.1]; simp [lNames, lTos])
  have HDN : Hid (∀ w', Below W.heap.size W w' → DataAt w' w'.heap.size d) := Lib.hid (fun w' h => hD.next (hws.step h).below)
  have CZ : Hid (∀ s w' (A : Prop), (Below W.heap.size W w' ∧ A) → Calls Tryz.prog 42 #[.agg #[.slice d.sA d.sn d.sc, .slice d.zA d.zn d.zc, .slice d.lA d.ln d.lc], .string s] w' fun e w2 => e = .returned (.int .i64 (zoneN d s)) ∧ Below W.heap.size W w2) := Lib.hid (fun s w' A h =>
    (zoneN_any d s w' (HDN.out _ h.1)).mono fun _ _ h2 => ⟨h2.1, h.1.trans (h2.2.mono h.1.size)⟩)
  have CL : Hid (∀ s w' (A : Prop), (Below W.heap.size W w' ∧ A) → Calls Tryz.prog 58 #[.agg #[.slice d.sA d.sn d.sc, .slice d.zA d.zn d.zc, .slice d.lA d.ln d.lc], .string s] w' fun e w2 => e = .returned (.int .i64 (linkN d s)) ∧ Below W.heap.size W w2) := Lib.hid (fun s w' A h =>
    (linkN_any d s w' (HDN.out _ h.1)).mono fun _ _ h2 => ⟨h2.1, h.1.trans (h2.2.mono h.1.size)⟩)
  have CF : Hid (∀ s w' (A : Prop), (Below W.heap.size W w' ∧ A) → Calls Tryz.prog 21 #[.agg #[.slice d.sA d.sn d.sc, .slice d.zA d.zn d.zc, .slice d.lA d.ln d.lc], .string s] w' fun e w2 => e = .returned (.int .i64 (leadN d s)) ∧ Below W.heap.size W w2) := Lib.hid (fun s w' A h =>
    (follow_any d s w' (HDN.out _ h.1)).mono fun _ _ h2 => ⟨h2.1, h.1.trans (h2.2.mono h.1.size)⟩)
  clear hws hK hE hD
  conv => arg 2; whnf
  go_wp2
  go_loopw [20] (fun b wr => ∃ i : Nat, i ≤ d.ln ∧ b = .int .i64 i ∧ Hid (anyTo (atI (fun _ => noLead d) (lNames d)) i = false) ∧ Below W.heap.size W wr) (fun b _ => d.ln - (intOf b).toNat)
  case atStart => exact ⟨0, Nat.zero_le _, rfl, Lib.hid rfl, Below.refl _ _⟩
  case round =>
    obtain ⟨i, hi, rfl, hfi, hb⟩ := hrel
    by_cases hit : i < d.ln
    · obtain ⟨b, o, q, hA, hbB, hq, hq1, hq1', hq2⟩ := links_get HD.out hit
      have HQ := Lib.hid hq
      have HA := Lib.hid hA
      have HC : Hid (∀ w1, Below W.heap.size W w1 → w1.cell? ⟨w.heap.size, 0, none⟩ = some (.slice d.sA d.sn d.sc) ∧ w1.cell? ⟨w.heap.size, 1, none⟩ = some (.slice d.zA d.zn d.zc) ∧ w1.cell? ⟨w.heap.size, 2, none⟩ = some (.slice (some ⟨b, o, none⟩) d.ln d.lc) ∧ w1.cell? ⟨b, o + i * 2, none⟩ = some (.string q.name) ∧ w1.cell? ⟨b, o + i * 2 + 1, none⟩ = some (.string q.to)) := Lib.hid (fun w1 h1 =>
        ⟨(HW.out.step h1).cells.1, (HW.out.step h1).cells.2.1, by rw [← HA.out]; exact (HW.out.step h1).cells.2.2, hq2 _ h1⟩)
      rw [hA] at CZ CL CF
      clear hq hq2 hA hq1 hq1'
      obtain ⟨c0, c1, c2, e0, e1⟩ := HC.out _ hb
      have HQT : Hid ((lNames d)[i]? = some q.name) := Lib.hid (by simp [lNames, HQ.out])
      by_cases hz : leadN d q.name < 0
      · have g1 : decide (leadN d q.name < 0) = true := by simpa using hz
        have HM : Hid (dataE d = 7) := Lib.hid (by
          rw [HE.out]; unfold dE10
          rw [if_pos (anyI_yes HQT.out (by unfold noLead; exact decide_eq_true hz))])
        clear hz hfi
        go_wp2
        first | (go_region_held3 (fun w' => Below W.heap.size W w' ∧ w'.cell? ⟨w.heap.size, 0, none⟩ = some (.slice d.sA d.sn d.sc) ∧ w'.cell? ⟨w.heap.size, 1, none⟩ = some (.slice d.zA d.zn d.zc) ∧ w'.cell? ⟨w.heap.size, 2, none⟩ = some (.slice (some ⟨b, o, none⟩) d.ln d.lc) ∧ w'.cell? ⟨b, o + i * 2, none⟩ = some (.string q.name) ∧ w'.cell? ⟨b, o + i * 2 + 1, none⟩ = some (.string q.to))
          (refine ⟨?_, ?_, ?_, ?_, ?_, ?_⟩ <;> (first | assumption | exact Below.drew (by assumption) | go_keep))
          (first
            | (go_at_call 42; refine (CZ.out _ _ _ (by assumption)).mono ?_; rintro e w4 ⟨rfl, hb5⟩; obtain ⟨k0, k1, k2, k3, k4⟩ := HC.out _ hb5)
            | (go_at_call 58; refine (CL.out _ _ _ (by assumption)).mono ?_; rintro e w4 ⟨rfl, hb5⟩; obtain ⟨k0, k1, k2, k3, k4⟩ := HC.out _ hb5)
            | (go_at_call 21; refine (CF.out _ _ _ (by assumption)).mono ?_; rintro e w4 ⟨rfl, hb5⟩; obtain ⟨k0, k1, k2, k3, k4⟩ := HC.out _ hb5))) | fail
        go_wp2
        go_ret
        exact ⟨ret_int HM.out.symm, (HW.out.step (by assumption)).below⟩
      · have g1 : decide (leadN d q.name < 0) = false := by simpa using hz
        have HM := Lib.hid (anyI_no (p := fun _ => noLead d) HQT.out hfi.out (by unfold noLead; exact decide_eq_false hz))
        clear hz hfi
        go_wp2
        first | (go_region_held3 (fun w' => Below W.heap.size W w' ∧ w'.cell? ⟨w.heap.size, 0, none⟩ = some (.slice d.sA d.sn d.sc) ∧ w'.cell? ⟨w.heap.size, 1, none⟩ = some (.slice d.zA d.zn d.zc) ∧ w'.cell? ⟨w.heap.size, 2, none⟩ = some (.slice (some ⟨b, o, none⟩) d.ln d.lc) ∧ w'.cell? ⟨b, o + i * 2, none⟩ = some (.string q.name) ∧ w'.cell? ⟨b, o + i * 2 + 1, none⟩ = some (.string q.to))
          (refine ⟨?_, ?_, ?_, ?_, ?_, ?_⟩ <;> (first | assumption | exact Below.drew (by assumption) | go_keep))
          (first
            | (go_at_call 42; refine (CZ.out _ _ _ (by assumption)).mono ?_; rintro e w4 ⟨rfl, hb5⟩; obtain ⟨k0, k1, k2, k3, k4⟩ := HC.out _ hb5)
            | (go_at_call 58; refine (CL.out _ _ _ (by assumption)).mono ?_; rintro e w4 ⟨rfl, hb5⟩; obtain ⟨k0, k1, k2, k3, k4⟩ := HC.out _ hb5)
            | (go_at_call 21; refine (CF.out _ _ _ (by assumption)).mono ?_; rintro e w4 ⟨rfl, hb5⟩; obtain ⟨k0, k1, k2, k3, k4⟩ := HC.out _ hb5))) | fail
        go_wp2
        go_roundw
        case rel => exact ⟨i + 1, by omega, by go_num, HM, by assumption⟩
        case measure => simp [intOf]; omega
    · have HM := Lib.hid (anyI_end (by rw [HLE.out]; omega) (by rw [HLE.out]; exact hi) hfi.out)
      obtain ⟨c0, c1, c2⟩ := (HW.out.step hb).cells
      clear hfi
      go_wp2
      exact HK.out _ _ HM.out ⟨rfl, ⟨rfl, trivial⟩, rfl, HW.out.step hb⟩
end Go.Proofs.YtbbbeldbhlehnaaGreat
end
/-! gnomonref.CheckData, whole. -/
section
set_option linter.unusedVariables false
set_option linter.unusedSimpArgs false
namespace Go.Proofs.YtbbbeldbhlehnaaGreat
open Go.RowKit Gno
theorem start_wr (d : Dt) (w : World) : WR d w (w.alloc (Dobj d)) :=
  ⟨(Below.refl _ _).alloc (Nat.le_refl _) _, World.alloc_heap_new w _, by simp⟩
theorem own_below {w w' : World} {B : Nat} {e : TypeId} {sz : Nat} {v : Value} {n : Nat} {xs : List Value} (h : w.ownsRow B e sz v n xs) (hb : Below w.heap.size w w') : w'.ownsRow B e sz v n xs := by
  refine ⟨h.1, ?_⟩
  rcases h.2 with h2 | ⟨g, cap, cur, h1, h2, h3, h4⟩
  · exact .inl h2
  · exact .inr ⟨g, cap, cur, h1, h2, (hb.block _ (Array.getElem?_eq_some_iff.1 h3).1).trans h3, h4⟩
theorem own_far {w w' : World} {B B' : Nat} {e e' : TypeId} {sz sz' : Nat} {v v' : Value} {n n' : Nat} {xs xs' : List Value} (h : w.ownsRow B e sz v n xs) (h' : w'.ownsRow B' e' sz' v' n' xs') (hB : w.heap.size ≤ B') : Apart v v' := by
  intro k h1 h2
  have := (h.lt k h1).2
  have := (h'.lt k h2).1
  omega
set_option maxRecDepth 100000 in
set_option maxHeartbeats 8000000 in
theorem checkData_any (d : Dt) (w : World) (hD : DataAt w w.heap.size d) :
    Calls Tryz.prog 41 #[d.val] w fun e w' => e = .returned (.int .i64 (dataE d)) ∧ Below w.heap.size w w' := by
  unfold Dt.val
  have HD := Lib.hid hD
  clear hD
  go_enter Tryz.func41, Tryz.ntmps41
  refine wp_seq_k fun K0 hK0 => ?_
  have HK0 := Lib.hid hK0
  clear hK0
  go_wp2
  refine HK0.out _ _ ?_
  clear HK0
  refine wp_seq_k fun K hK => rt1 ?hl fun a1 W1 hm hL1 => hK _ _ ?_
  case hl => exact ⟨rfl, ⟨rfl, trivial⟩, rfl, start_wr d w⟩
  clear hK
  have hE1 : dataE d = dE1 d := by unfold dataE; rw [if_neg (by rw [hm]; simp)]
  have hle := manyD_le hm
  refine wp_seq_k fun K hK => rt2 hL1 fun a2 hL2 => hK _ _ ?_
  clear hL1 hK
  refine wp_seq_k fun K hK => rt3 HD.out hm hE1 hL2 rfl fun a3 W3 v3 hm3 hL3 ho3 hb3 => hK _ _ ?_
  have hE2 : dataE d = dE2 d := by rw [hE1]; unfold dE1; rw [if_neg (by rw [hm3]; simp)]
  have hs2 := hL2.ws.size
  clear hL2 hK
  refine wp_seq_k fun K hK => rt4 HD.out hm hE2 hL3 rfl fun a4 W4 v4 hm4 hL4 ho4 hb4 => hK _ _ ?_
  have hE3 : dataE d = dE3 d := by rw [hE2]; unfold dE2; rw [if_neg (by rw [hm4]; simp)]
  have hs3 := hL3.ws.size
  clear hL3 hK
  have s3 := (own_SlB ho3 (by unfold maxLen; omega)).below hb4 (Nat.le_refl _)
  have s4 := own_SlB ho4 (by unfold maxLen; omega)
  refine wp_seq_k fun K hK => rt5 hm hL4 (s3.more hb4.size) s4 fun a5 W5 v7 hL5 ho7 hb5 => hK _ _ ?_
  clear hL4 hK
  have ho4' := own_below ho4 hb5
  have hap : Apart v4 v7 := own_far ho4 ho7 (Nat.le_refl _)
  have s3 := s3.below (hb5.mono hb4.size) (Nat.le_refl _)
  refine wp_seq_k fun K hK => rt6 HD.out hm hL5 ho4' ho7 hap hs3 hb4.size hb5.size fun a6 W6 v4 v7 hL6 s4 s7 hb6 => hK _ _ ?_
  clear hL5 hK hap ho4' ho7 ho4 ho3
  have s3 := s3.below hb6 (Nat.le_refl _)
  refine wp_seq_k fun K hK => rt7 HD.out (by omega) hE3 hL6 s7 fun a7 hm7 hL7 => hK _ _ ?_
  have hE4 : dataE d = dE4 d := by rw [hE3]; unfold dE3; rw [if_neg (by rw [hm7]; simp)]
  clear hL6 hK s7
  refine wp_seq_k fun K hK => rt8 hE4 hL7 (s3.more (by have := hb4.size; have := hb5.size; have := hb6.size; omega)) s4 fun a8 W8 hm8 hL8 => hK _ _ ?_
  have hE5 : dataE d = dE5 d := by rw [hE4]; unfold dE4; rw [if_neg (by rw [hm8]; simp)]
  clear hL7 hK s4 s3
  refine wp_seq_k fun K hK => rt9 HD.out hE5 hL8 fun a9 W9 hm9 hL9 => hK _ _ ?_
  have hE6 : dataE d = dE6 d := by rw [hE5]; unfold dE5; rw [if_neg (by rw [hm9]; simp)]
  clear hL8 hK
  refine wp_seq_k fun K hK => rt10 HD.out hm hE6 hL9 fun a10 W10 hm10 hL10 => hK _ _ ?_
  have hE8 : dataE d = dE8 d := by rw [hE6]; exact dE6_good hm10
  clear hL9 hK
  refine wp_seq_k fun K hK => rt11 HD.out hE8 hL10 fun a11 W11 hm11 hL11 => hK _ _ ?_
  have hE9 : dataE d = dE9 d := by rw [hE8]; unfold dE8; rw [if_neg (by rw [hm11]; simp)]
  clear hL10 hK
  refine wp_seq_k fun K hK => rt12 HD.out hE9 hL11 fun a12 W12 hm12 hL12 => hK _ _ ?_
  have hE10 : dataE d = dE10 d := by rw [hE9]; unfold dE9; rw [if_neg (by rw [hm12]; simp)]
  clear hL11 hK
  refine wp_seq_k fun K hK => rt13 HD.out hE10 hL12 fun a13 W13 hm13 hL13 => hK _ _ ?_
  have hE0 : dataE d = 0 := by rw [hE10]; unfold dE10; rw [if_neg (by rw [hm13]; simp)]
  clear hL12 hK
  obtain ⟨f, rfl, hws⟩ := openR0 hL13
  have HW := Lib.hid hws
  have HE := Lib.hid hE0
  clear hL13 hws hE0 hE1 hE2 hE3 hE4 hE5 hE6 hE8 hE9 hE10 hm hm3 hm4 hm7 hm8 hm9 hm10 hm11 hm12 hm13 hle
  go_wp2
  go_ret
  exact ⟨ret_int HE.out.symm, HW.out.below⟩
end Go.Proofs.YtbbbeldbhlehnaaGreat
end
/-! data.Zone and gnomonref.ZoneOf. -/
section
set_option linter.unusedVariables false
set_option linter.unusedSimpArgs false
namespace Gno
open Go
noncomputable def zoneK (d : Dt) (nm : ByteArray) : Int := if dataE d ≠ 0 then 0 else if leadN d nm < 0 then 0 else leadN d nm
noncomputable def zoneEr (d : Dt) (nm : ByteArray) : Int := if dataE d ≠ 0 then dataE d else if leadN d nm < 0 then 4 else 0
theorem zone_bad {d : Dt} {nm : ByteArray} (h : dataE d ≠ 0) : zoneK d nm = 0 ∧ zoneEr d nm = dataE d := by unfold zoneK zoneEr; rw [if_pos h, if_pos h]; exact ⟨rfl, rfl⟩
theorem zone_none {d : Dt} {nm : ByteArray} (h : dataE d = 0) (h1 : leadN d nm < 0) : zoneK d nm = 0 ∧ zoneEr d nm = 4 := by
  unfold zoneK zoneEr; simp [h, h1]
theorem zone_is {d : Dt} {nm : ByteArray} (h : dataE d = 0) (h1 : ¬ leadN d nm < 0) : zoneK d nm = leadN d nm ∧ zoneEr d nm = 0 := by
  unfold zoneK zoneEr; simp [h, h1]
end Gno
namespace Go.Proofs.YtbbbeldbhlehnaaGreat
open Go.RowKit Gno
theorem MaxAt.next {w W : World} (h : MaxAt w w.heap.size) (hb : Below w.heap.size w W) : MaxAt W W.heap.size := by
  have h1 := h.below hb (Nat.le_refl _)
  exact ⟨by have := h1.1; have := hb.size; omega, h1.2⟩
end Go.Proofs.YtbbbeldbhlehnaaGreat
end
/-! Data of two zones, and two links: what is right of them; the call that makes them. -/
section
set_option linter.unusedVariables false
set_option linter.unusedSimpArgs false
namespace Gno
open Go
def sEu : ByteArray := ⟨#[101, 117]⟩
def sLMT : ByteArray := ⟨#[76, 77, 84]⟩
def sCEsT : ByteArray := ⟨#[67, 69, 37, 115, 84]⟩
def sXT : ByteArray := ⟨#[88, 84]⟩
def sOld : ByteArray := ⟨#[69, 47, 79, 108, 100, 95, 84, 111, 119, 110]⟩
def sAW : ByteArray := ⟨#[65, 47, 87, 101, 115, 116]⟩
def sTown : ByteArray := ⟨#[84, 111, 119, 110]⟩
def sTt : ByteArray := ⟨#[84]⟩
def sXx1 : ByteArray := ⟨#[88]⟩
def euD (k : Nat) (s2 : Int) (t : ByteArray) : Dt :=
  { sA := some ⟨k + 2, 0, none⟩, sn := 1, sc := 1, ss := [⟨sEu, some ⟨k + 1, 0, none⟩, 2, 2, springs⟩],
    zA := some ⟨k + 5, 0, none⟩, zn := 2, zc := 2, zs := [⟨sOld, some ⟨k + 3, 0, none⟩, 2, 2, [⟨1800, -1, 0, sLMT, 500000000⟩, ⟨3600, 0, 0, sCEsT, 1893456000⟩]⟩, ⟨sAW, some ⟨k + 4, 0, none⟩, 1, 1, [⟨-18000, s2, 3600, sXT, 1893456000⟩]⟩],
    lA := some ⟨k + 6, 0, none⟩, ln := 2, lc := 2, ls := [⟨sTown, t⟩, ⟨sTt, sTown⟩] }
theorem eu_sets (k : Nat) (s2 : Int) (t : ByteArray) : setsE (euD k s2 t).ss = 0 := by
  show (if firstE springs ≠ 0 then firstE springs else 0) = 0
  rw [springs_ok]; rfl
theorem eu_some (k : Nat) (s2 : Int) (t : ByteArray) (h3 : anyI (fun _ => badNm) (allNames (euD k s2 t)) = false) : dataE (euD k s2 t) = dE6 (euD k s2 t) := by
  unfold dataE dE1 dE2 dE3 dE4 dE5
  rw [if_neg (by rw [show manyD (euD k s2 t) = false from rfl]; simp), if_neg (by rw [show anyI (fun _ => manyRules) (euD k s2 t).ss = false from rfl]; simp),
    if_neg (by rw [show anyI (fun _ => manyEras) (euD k s2 t).zs = false from rfl]; simp), if_neg (by rw [h3]; simp),
    if_neg (by rw [show (dup (sNames (euD k s2 t)) || dup (zNames (euD k s2 t) ++ lNames (euD k s2 t))) = false from by kernel_rfl]; simp), if_neg (by rw [eu_sets]; simp)]
theorem eu_ok (k : Nat) : dataE (euD k (-1) sOld) = 0 := by
  rw [eu_some k (-1) sOld (by kernel_rfl)]
  unfold dE6 dE7 dE8 dE9 dE10
  rw [if_neg (by rw [show (erasL (euD k (-1) sOld).zs).any (badE (euD k (-1) sOld)) = false from by kernel_rfl]; simp),
    if_neg (by rw [show anyI (fun _ => badEnd) (euD k (-1) sOld).zs = false from by kernel_rfl]; simp),
    if_neg (by rw [show (erasL (euD k (-1) sOld).zs).any badF = false from by kernel_rfl]; simp),
    if_neg (by rw [show anyI (fun _ => noTo (euD k (-1) sOld)) (lTos (euD k (-1) sOld)) = false from by kernel_rfl]; simp),
    if_neg (by rw [show anyI (fun _ => noLead (euD k (-1) sOld)) (lNames (euD k (-1) sOld)) = false from by kernel_rfl]; simp)]
theorem eu_round (k : Nat) : dataE (euD k (-1) sTt) = 7 := by
  rw [eu_some k (-1) sTt (by kernel_rfl)]
  unfold dE6 dE7 dE8 dE9 dE10
  rw [if_neg (by rw [show (erasL (euD k (-1) sTt).zs).any (badE (euD k (-1) sTt)) = false from by kernel_rfl]; simp),
    if_neg (by rw [show anyI (fun _ => badEnd) (euD k (-1) sTt).zs = false from by kernel_rfl]; simp),
    if_neg (by rw [show (erasL (euD k (-1) sTt).zs).any badF = false from by kernel_rfl]; simp),
    if_neg (by rw [show anyI (fun _ => noTo (euD k (-1) sTt)) (lTos (euD k (-1) sTt)) = false from by kernel_rfl]; simp),
    if_pos (by rw [show anyI (fun _ => noLead (euD k (-1) sTt)) (lNames (euD k (-1) sTt)) = true from by kernel_rfl])]
theorem eu_range (k : Nat) : dataE (euD k 0 sOld) = 3 := by
  rw [eu_some k 0 sOld (by kernel_rfl)]
  unfold dE6
  rw [if_pos (by rw [show (erasL (euD k 0 sOld).zs).any (badE (euD k 0 sOld)) = true from by kernel_rfl])]
theorem eu_T (k : Nat) : zoneK (euD k (-1) sOld) sTt = 0 ∧ zoneEr (euD k (-1) sOld) sTt = 0 := by
  have h : leadN (euD k (-1) sOld) sTt = 0 := by kernel_rfl
  have := zone_is (eu_ok k) (nm := sTt) (by rw [h]; simp)
  rwa [h] at this
theorem eu_X (k : Nat) : zoneK (euD k (-1) sOld) sXx1 = 0 ∧ zoneEr (euD k (-1) sOld) sXx1 = 4 := by
  have h : leadN (euD k (-1) sOld) sXx1 = -1 := by kernel_rfl
  exact zone_none (eu_ok k) (nm := sXx1) (by rw [h]; simp)
end Gno
namespace Go.Proofs.YtbbbeldbhlehnaaGreat
open Go.RowKit Gno
def euO0 (k : Nat) : Obj := .cells #[.slice (some ⟨k + 1 + 1, 0, none⟩) 1 1, .slice (some ⟨k + 1 + 1 + 1 + 1 + 1, 0, none⟩) 2 2, .slice (some ⟨k + 1 + 1 + 1 + 1 + 1 + 1, 0, none⟩) 2 2] 26
def euO1 : Obj := .cells #[.int .i64 1980, .int .i64 2029, .int .i64 3, .int .i64 2, .int .i64 0, .int .i64 0, .int .i64 7200, .int .i64 3600, .string ⟨#[68]⟩,
        .int .i64 1980, .int .i64 2029, .int .i64 10, .int .i64 2, .int .i64 0, .int .i64 0, .int .i64 7200, .int .i64 0, .string ⟨#[83]⟩] 99
def euO2 (k : Nat) : Obj := .cells #[.string ⟨#[101, 117]⟩, .slice (some ⟨k + 1, 0, none⟩) 2 2] 81
def euO3 : Obj := .cells #[.int .i64 1800, .int .i64 (-1), .int .i64 0, .string ⟨#[76, 77, 84]⟩, .int .i64 500000000, .int .i64 3600, .int .i64 0, .int .i64 0, .string ⟨#[67, 69, 37, 115, 84]⟩, .int .i64 1893456000] 83
def euO4 (s2 : Int) : Obj := .cells #[.int .i64 (-18000), .int .i64 s2, .int .i64 3600, .string ⟨#[88, 84]⟩, .int .i64 1893456000] 83
def euO5 (k : Nat) : Obj := .cells #[.string ⟨#[69, 47, 79, 108, 100, 95, 84, 111, 119, 110]⟩, .slice (some ⟨k + 1 + 1 + 1, 0, none⟩) 2 2, .string ⟨#[65, 47, 87, 101, 115, 116]⟩, .slice (some ⟨k + 1 + 1 + 1 + 1, 0, none⟩) 1 1] 41
def euO6 (t : ByteArray) : Obj := .cells #[.string ⟨#[84, 111, 119, 110]⟩, .string t, .string ⟨#[84]⟩, .string ⟨#[84, 111, 119, 110]⟩] 68
def euW (w : World) : World := ((((((w.alloc (euO0 w.heap.size)).alloc euO1).alloc (euO2 w.heap.size)).alloc euO3).alloc (euO4 (-1))).alloc (euO5 w.heap.size)).alloc (euO6 sOld)
theorem euW_size (w : World) : (euW w).heap.size = w.heap.size + 7 := by simp [euW]
theorem euW_below (w : World) : Below w.heap.size w (euW w) :=
  ((((((((Below.refl _ _).alloc (Nat.le_refl _) _).alloc (by simp) _).alloc (by simp; omega) _).alloc (by simp; omega) _).alloc (by simp; omega) _).alloc (by simp; omega) _).alloc (by simp; omega) _)
/-- the blocks of the data. -/
structure EuIn (W : World) (k : Nat) (s2 : Int) (t : ByteArray) : Prop where
  o1 : W.heap[k + 1]? = some euO1
  o2 : W.heap[k + 2]? = some (euO2 k)
  o3 : W.heap[k + 3]? = some euO3
  o4 : W.heap[k + 4]? = some (euO4 s2)
  o5 : W.heap[k + 5]? = some (euO5 k)
  o6 : W.heap[k + 6]? = some (euO6 t)
theorem EuIn.below {W W' : World} {B k : Nat} {s2 : Int} {t : ByteArray} (h : EuIn W k s2 t) (hb : Below B W W') (hB : k + 7 ≤ B) : EuIn W' k s2 t :=
  ⟨(hb.block _ (by omega)).trans h.o1, (hb.block _ (by omega)).trans h.o2, (hb.block _ (by omega)).trans h.o3, (hb.block _ (by omega)).trans h.o4, (hb.block _ (by omega)).trans h.o5, (hb.block _ (by omega)).trans h.o6⟩
theorem push_at (w : World) (o : Obj) (b : Nat) (h : b = w.heap.size) : (w.alloc o).heap[b]? = some o := by subst h; exact World.alloc_heap_new w o
theorem push_past (w : World) (o : Obj) (b : Nat) (h : b < w.heap.size) : (w.alloc o).heap[b]? = w.heap[b]? := Below.heap_alloc _ _ _ h
theorem cell_of {W : World} {b o : Nat} {cs : Array Value} {T : TypeId} {v : Value} (h : W.heap[b]? = some (.cells cs T)) (hv : cs[o]? = some v) : W.cell? ⟨b, o, none⟩ = some v := by simp [World.cell?, h, hv]
theorem frozen_of {W : World} {b o : Nat} {cs : Array Value} {T : TypeId} (h : W.heap[b]? = some (.cells cs T)) : W.frozen? ⟨b, o, none⟩ = false := by simp [World.frozen?, h]
theorem euW_o0 (w : World) : (euW w).heap[w.heap.size]? = some (euO0 w.heap.size) := by
  unfold euW
  rw [push_past _ _ _ (by simp; omega), push_past _ _ _ (by simp; omega), push_past _ _ _ (by simp; omega), push_past _ _ _ (by simp; omega), push_past _ _ _ (by simp; omega), push_past _ _ _ (by simp), push_at _ _ _ rfl]
theorem euW_in (w : World) : EuIn (euW w) w.heap.size (-1) sOld := by
  unfold euW
  refine ⟨?_, ?_, ?_, ?_, ?_, ?_⟩
  · rw [push_past _ _ _ (by simp <;> omega), push_past _ _ _ (by simp <;> omega), push_past _ _ _ (by simp <;> omega), push_past _ _ _ (by simp <;> omega), push_past _ _ _ (by simp), push_at _ _ _ (by simp)]
  · rw [push_past _ _ _ (by simp <;> omega), push_past _ _ _ (by simp <;> omega), push_past _ _ _ (by simp <;> omega), push_past _ _ _ (by simp), push_at _ _ _ (by simp)]
  · rw [push_past _ _ _ (by simp <;> omega), push_past _ _ _ (by simp <;> omega), push_past _ _ _ (by simp), push_at _ _ _ (by simp)]
  · rw [push_past _ _ _ (by simp <;> omega), push_past _ _ _ (by simp), push_at _ _ _ (by simp)]
  · rw [push_past _ _ _ (by simp), push_at _ _ _ (by simp)]
  · rw [push_at _ _ _ (by simp)]
set_option maxRecDepth 100000 in
theorem europe_any (w : World) : Calls Tryz.prog 25 #[] w fun e w' => e = .returned (euD w.heap.size (-1) sOld).val ∧ w' = euW w := by
  go_enter Tryz.func25, Tryz.ntmps25
  go_wp2_with (go_at_call 60; refine (spring_any _).mono ?_; rintro e w1 ⟨rfl, rfl⟩)
  refine bodyPost_ret (results_cell_row rfl _ _ w.heap.size 26 _ (0, 0) _ rfl (euW_o0 w) Tryz.underlying26 rfl (by kernel_rfl)) rfl ⟨rfl, rfl⟩
theorem eu_rules {W : World} {k B : Nat} {s2 : Int} {t : ByteArray} (h : EuIn W k s2 t) (hB : k + 1 < B) : RulesAt W B (some ⟨k + 1, 0, none⟩) 2 springs := by
  have h1 := h.o1
  unfold euO1 at h1
  refine ⟨rfl, by decide, fun _ => ⟨k + 1, 0, rfl, hB, fun i r hr => ?_⟩⟩
  match i, hr with
  | 0, hr =>
    obtain rfl : sA = r := by simpa [springs] using hr
    exact ⟨⟨by simp [sA, World.cell?, h1], by simp [sA, World.cell?, h1], by simp [sA, World.cell?, h1], by simp [sA, World.cell?, h1], by simp [sA, World.cell?, h1], by simp [sA, World.cell?, h1], by simp [sA, World.cell?, h1], by simp [sA, World.cell?, h1], by simp [sA, World.cell?, h1]⟩, by decide⟩
  | 1, hr =>
    obtain rfl : sB = r := by simpa [springs] using hr
    exact ⟨⟨by simp [sB, World.cell?, h1], by simp [sB, World.cell?, h1], by simp [sB, World.cell?, h1], by simp [sB, World.cell?, h1], by simp [sB, World.cell?, h1], by simp [sB, World.cell?, h1], by simp [sB, World.cell?, h1], by simp [sB, World.cell?, h1], by simp [sB, World.cell?, h1]⟩, by decide⟩
  | i + 2, hr => simp [springs] at hr
theorem eu_data {W : World} {k B : Nat} {s2 : Int} {t : ByteArray} (h : EuIn W k s2 t) (hB : k + 7 ≤ B) (ht : t.size ≤ maxLen) : DataAt W B (euD k s2 t) := by
  have h2 := h.o2
  have h3 := h.o3
  have h4 := h.o4
  have h5 := h.o5
  have h6 := h.o6
  unfold euO2 at h2
  unfold euO3 at h3
  unfold euO4 at h4
  unfold euO5 at h5
  unfold euO6 at h6
  have m2 : (2 : Nat) ≤ maxLen := by unfold maxLen; omega
  have m1 : (1 : Nat) ≤ maxLen := by unfold maxLen; omega
  refine ⟨⟨rfl, m1, fun _ => ⟨k + 2, 0, rfl, by omega, fun i q hq => ?_⟩⟩, ⟨rfl, m2, fun _ => ⟨k + 5, 0, rfl, by omega, fun i q hq => ?_⟩⟩, ⟨rfl, m2, fun _ => ⟨k + 6, 0, rfl, by omega, fun i q hq => ?_⟩⟩, (by unfold fmtMax; show (2 : Nat) ≤ _; omega)⟩
  · match i, hq with
    | 0, hq =>
      obtain rfl : (⟨sEu, some ⟨k + 1, 0, none⟩, 2, 2, springs⟩ : St) = q := by simpa [euD] using hq
      exact ⟨⟨by simp [World.cell?, h2, sEu], by simp [World.cell?, h2]⟩, m2, eu_rules h (by omega)⟩
    | i + 1, hq => simp [euD] at hq
  · match i, hq with
    | 0, hq =>
      obtain rfl : (⟨sOld, some ⟨k + 3, 0, none⟩, 2, 2, [⟨1800, -1, 0, sLMT, 500000000⟩, ⟨3600, 0, 0, sCEsT, 1893456000⟩]⟩ : Zn) = q := by simpa [euD] using hq
      refine ⟨⟨by simp [World.cell?, h5, sOld], by simp [World.cell?, h5]⟩, (show (10 : Nat) ≤ maxLen by unfold maxLen; omega), ⟨rfl, m2, fun _ => ⟨k + 3, 0, rfl, by omega, fun j x hx => ?_⟩⟩⟩
      match j, hx with
      | 0, hx =>
        obtain rfl : (⟨1800, -1, 0, sLMT, 500000000⟩ : Er) = x := by simpa using hx
        exact ⟨⟨by simp [World.cell?, h3], by simp [World.cell?, h3], by simp [World.cell?, h3], by simp [World.cell?, h3, sLMT], by simp [World.cell?, h3]⟩, (show (3 : Nat) ≤ fmtMax by unfold fmtMax; omega)⟩
      | 1, hx =>
        obtain rfl : (⟨3600, 0, 0, sCEsT, 1893456000⟩ : Er) = x := by simpa using hx
        exact ⟨⟨by simp [World.cell?, h3], by simp [World.cell?, h3], by simp [World.cell?, h3], by simp [World.cell?, h3, sCEsT], by simp [World.cell?, h3]⟩, (show (5 : Nat) ≤ fmtMax by unfold fmtMax; omega)⟩
      | j + 2, hx => simp at hx
    | 1, hq =>
      obtain rfl : (⟨sAW, some ⟨k + 4, 0, none⟩, 1, 1, [⟨-18000, s2, 3600, sXT, 1893456000⟩]⟩ : Zn) = q := by simpa [euD] using hq
      refine ⟨⟨by simp [World.cell?, h5, sAW], by simp [World.cell?, h5]⟩, (show (6 : Nat) ≤ maxLen by unfold maxLen; omega), ⟨rfl, m1, fun _ => ⟨k + 4, 0, rfl, by omega, fun j x hx => ?_⟩⟩⟩
      match j, hx with
      | 0, hx =>
        obtain rfl : (⟨-18000, s2, 3600, sXT, 1893456000⟩ : Er) = x := by simpa using hx
        exact ⟨⟨by simp [World.cell?, h4], by simp [World.cell?, h4], by simp [World.cell?, h4], by simp [World.cell?, h4, sXT], by simp [World.cell?, h4]⟩, (show (2 : Nat) ≤ fmtMax by unfold fmtMax; omega)⟩
      | j + 1, hx => simp at hx
    | i + 2, hq => simp [euD] at hq
  · match i, hq with
    | 0, hq =>
      obtain rfl : (⟨sTown, t⟩ : Lk) = q := by simpa [euD] using hq
      exact ⟨⟨by simp [World.cell?, h6, sTown], by simp [World.cell?, h6]⟩, (show (4 : Nat) ≤ maxLen by unfold maxLen; omega), ht⟩
    | 1, hq =>
      obtain rfl : (⟨sTt, sTown⟩ : Lk) = q := by simpa [euD] using hq
      exact ⟨⟨by simp [World.cell?, h6, sTt], by simp [World.cell?, h6, sTown]⟩, (show (1 : Nat) ≤ maxLen by unfold maxLen; omega), (show (4 : Nat) ≤ maxLen by unfold maxLen; omega)⟩
    | i + 2, hq => simp [euD] at hq
theorem set_obj {W : World} {b o : Nat} {cs : Array Value} {T : TypeId} (h : W.heap[b]? = some (.cells cs T)) (v : Value) : (W.setCell ⟨b, o, none⟩ v).heap[b]? = some (.cells (cs.setIfInBounds o v) T) := by
  unfold World.setCell
  simp [Array.getElem?_modify, h]
theorem eu_set6 {W : World} {k : Nat} {s2 : Int} {t : ByteArray} (h : EuIn W k s2 t) (t' : ByteArray) : EuIn (W.setCell ⟨k + 6, 1, none⟩ (.string t')) k s2 t' :=
  ⟨(Below.heap_setCell W ⟨k + 6, 1, none⟩ _ _ (by simp)).trans h.o1, (Below.heap_setCell W ⟨k + 6, 1, none⟩ _ _ (by simp)).trans h.o2, (Below.heap_setCell W ⟨k + 6, 1, none⟩ _ _ (by simp)).trans h.o3, (Below.heap_setCell W ⟨k + 6, 1, none⟩ _ _ (by simp)).trans h.o4, (Below.heap_setCell W ⟨k + 6, 1, none⟩ _ _ (by simp)).trans h.o5, (set_obj h.o6 _).trans rfl⟩
theorem eu_set4 {W : World} {k : Nat} {s2 : Int} {t : ByteArray} (h : EuIn W k s2 t) (s : Int) : EuIn (W.setCell ⟨k + 4, 1, none⟩ (.int .i64 s)) k s t :=
  ⟨(Below.heap_setCell W ⟨k + 4, 1, none⟩ _ _ (by simp)).trans h.o1, (Below.heap_setCell W ⟨k + 4, 1, none⟩ _ _ (by simp)).trans h.o2, (Below.heap_setCell W ⟨k + 4, 1, none⟩ _ _ (by simp)).trans h.o3, (set_obj h.o4 _).trans rfl, (Below.heap_setCell W ⟨k + 4, 1, none⟩ _ _ (by simp)).trans h.o5, (Below.heap_setCell W ⟨k + 4, 1, none⟩ _ _ (by simp)).trans h.o6⟩
end Go.Proofs.YtbbbeldbhlehnaaGreat
end
/-! What must be in any case of data. -/
section
set_option linter.unusedVariables false
set_option linter.unusedSimpArgs false
namespace Go.Proofs.YtbbbeldbhlehnaaGreat
open Go.RowKit Gno
theorem eu_mk (W : World) : Calls Tryz.prog 25 #[] W fun e w' => e = .returned (.agg #[.slice (some ⟨W.heap.size + 2, 0, none⟩) 1 1, .slice (some ⟨W.heap.size + 5, 0, none⟩) 2 2, .slice (some ⟨W.heap.size + 6, 0, none⟩) 2 2]) ∧ w' = euW W := europe_any W
theorem eu_chk (W : World) (k : Nat) (s2 : Int) (t : ByteArray) (h : EuIn W k s2 t) (hB : k + 7 ≤ W.heap.size) (ht : t.size ≤ maxLen) (hM : MaxAt W W.heap.size) {e : Int} (he : dataE (euD k s2 t) = e) :
    Calls Tryz.prog 27 #[.agg #[.slice (some ⟨k + 2, 0, none⟩) 1 1, .slice (some ⟨k + 5, 0, none⟩) 2 2, .slice (some ⟨k + 6, 0, none⟩) 2 2]] W fun e' w' => e' = .returned (.int .i64 e) ∧ Below W.heap.size W w' := by
  have := check_any (euD k s2 t) W (eu_data h hB ht) hM
  rwa [he] at this
theorem euW_next {w0 w : World} (h : Below w0.heap.size w0 w) : Below w0.heap.size w0 (euW w) := h.trans ((euW_below w).mono h.size)
theorem old_le : sOld.size ≤ maxLen := (show (10 : Nat) ≤ maxLen by unfold maxLen; omega)
theorem tt_le : sTt.size ≤ maxLen := (show (1 : Nat) ≤ maxLen by unfold maxLen; omega)
theorem nm_ok : nameOk sOld = true := by kernel_rfl
theorem nm_no1 : nameOk ⟨#[69, 47]⟩ = false := by kernel_rfl
theorem nm_no2 : nameOk ⟨#[49, 97]⟩ = false := by kernel_rfl
/-- a box behind all that was, and a cell of one of the data's blocks written. -/
theorem eu_box (w2 : World) : EuIn ((euW w2).alloc (Dobj (euD w2.heap.size (-1) sOld))) w2.heap.size (-1) sOld :=
  (euW_in w2).below ((Below.refl _ _).alloc (Nat.le_refl _) _) (by rw [euW_size]; omega)
end Go.Proofs.YtbbbeldbhlehnaaGreat
end
