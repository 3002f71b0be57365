/- Parts of a proof, laid together. -/
import Derived.Deep.AppendLies
import Derived.Deep.RegionLaw
import Derived.BigRegion
import Derived.Deep.RegionHeld3
import Derived.Test.YtlngalmdidaahaaGreatDoorMUMostP32
import Derived.Test.YtlngalmdidaahaaGreatDoorMUMostP31
set_option linter.unusedSimpArgs false
set_option linter.unusedVariables false
/-! gnomonref.CheckData: the links' names. -/
section
set_option linter.unusedVariables false
set_option linter.unusedSimpArgs false
namespace Go.Proofs.YtlngalmdidaahaaGreatDoor
open Go.RowKit Gno
theorem below_drew' {B : Nat} {w w' : World} (h : Below B w w') : Below B w w'.drew := ⟨h.os, h.tape, h.output, h.size, h.block⟩
theorem own_drew {w : World} {B : Nat} {e : TypeId} {sz : Nat} {v : Value} {n : Nat} {xs : List Value} (h : w.ownsRow B e sz v n xs) : w.drew.ownsRow B e sz v n xs := h
theorem near_of {w : World} {v : Value} {g n cap H : Nat} (h : v.ownBlock = some g ∨ g = H) (hH : w.heap.size = H) : NearOr w v (.slice (some ⟨g, 0, none⟩) n cap) := by
  rcases h with h | h
  · exact .inl h.symm
  · exact .inr fun k hk => by simp [Value.ownBlock] at hk; omega
set_option maxRecDepth 100000 in
set_option maxHeartbeats 8000000 in
theorem rt6 {d : Dt} {w W : World} {a : Act} {K : Act → World → Prop} {v3 v4 v7 : Value} {B4 B7 : Nat} (hD : DataAt w w.heap.size d) (hM : manyD d = false) (hL : LiveR d w [(3, v3), (4, v4), (7, v7)] a W)
    (h4 : W.ownsRow B4 9 1 v4 d.zn (strs (zNames d))) (h7 : W.ownsRow B7 9 1 v7 (d.sn + d.zn) (strs (sNames d ++ zNames d))) (h47 : Apart v4 v7)
    (hB0 : w.heap.size + 1 ≤ B4) (hB4 : B4 ≤ B7) (hB7 : B7 ≤ W.heap.size)
    (hK : ∀ a' W' v4 v7, LiveR d w [(3, v3), (4, v4), (7, v7)] a' W' → SlB W' W'.heap.size (d.zn + d.ln) (zNames d ++ lNames d) v4 → SlB W' W'.heap.size (d.sn + d.zn + 2 * d.ln) (allR d) v7 → Below B4 W W' → K a' W') :
    (stmR 6).wp Tryz.prog (Exit.then K (QR d w)) a W := by
  obtain ⟨f, rfl, hws⟩ := openR3 hL
  clear hL
  obtain ⟨i0, hi0, hz0, hz1, hz2⟩ := info_parts infoStr
  have hI := Lib.hid hi0
  have hZ0 := Lib.hid hz0
  have hZ1 := Lib.hid hz1
  have hZ2 := Lib.hid hz2
  clear hi0 hz0 hz1 hz2
  have HW := Lib.hid hws
  have HK := Lib.hid hK
  have hle := manyD_le hM
  have hs1 : d.sn ≤ 3 := hle.1
  have hs2 : d.zn ≤ 5 := hle.2.1
  have hs3 : d.ln ≤ 4 := hle.2.2
  have hsz := hws.size
  have HD := Lib.hid hD.2.2.1
  have hn : d.ln ≤ 100 := by omega
  have HLE := Lib.hid HD.out.1
  have H7 := Lib.hid h7
  have HWR : Hid (∀ W', Below B4 W W' → WR d w W') := Lib.hid (fun W' hb =>
    ⟨hws.below.trans (hb.mono (by omega)), (hb.block _ (by omega)).trans hws.d0, by have := hb.size; omega⟩)
  clear hws hK hD hM hle h7
  conv => arg 2; whnf
  go_wp2
  go_loopw [4, 7, 8] (fun b4 b7 b wr => ∃ i : Nat, i ≤ d.ln ∧ b = .int .i64 i ∧ wr.ownsRow B4 9 1 b4 (d.zn + i) (strs (zNames d ++ (lNames d).take i)) ∧
    wr.ownsRow B7 9 1 b7 (d.sn + d.zn + 2 * i) (strs (sNames d ++ zNames d ++ (d.ls.take i).flatMap linkTexts)) ∧ Hid (Apart b4 b7) ∧ Below B4 W wr) (fun _ _ b _ => d.ln - (intOf b).toNat)
  case atStart => exact ⟨0, Nat.zero_le _, rfl, by simpa using h4, by simpa using H7.out, Lib.hid h47, Below.refl _ _⟩
  case round =>
    obtain ⟨i, hi, rfl, hown4, hown7, hap, hb⟩ := hrel
    obtain ⟨c0, c1, c2⟩ := (HWR.out _ hb).cells
    have hwz := hb.size
    by_cases hit : i < d.ln
    · obtain ⟨b, o, q, hA, hbB, hq, hq1, hq1', hq2⟩ := links_get HD.out hit
      obtain ⟨e0, e1⟩ := hq2 _ (HWR.out _ hb).below
      have HA := Lib.hid hA
      rw [hA] at c2
      have HT4 : Hid (strs (zNames d ++ (lNames d).take (i + 1)) = strs (zNames d ++ (lNames d).take i) ++ [.string q.name]) := Lib.hid (by
        have h1 : (lNames d)[i]? = some q.name := by simp [lNames, hq]
        rw [take_snoc' h1]; simp [strs])
      have HT7 : Hid (strs (sNames d ++ zNames d ++ (d.ls.take (i + 1)).flatMap linkTexts) = strs (sNames d ++ zNames d ++ (d.ls.take i).flatMap linkTexts) ++ [.string q.name, .string q.to]) := Lib.hid (by
        rw [take_snoc' hq]; simp [strs, linkTexts])
      have HC : Hid (∀ w1, Below B4 W w1 → w1.cell? ⟨w.heap.size, 2, none⟩ = some (.slice (some ⟨b, o, none⟩) d.ln d.lc) ∧ w1.cell? ⟨b, o + i * 2, none⟩ = some (.string q.name) ∧ w1.cell? ⟨b, o + i * 2 + 1, none⟩ = some (.string q.to)) := Lib.hid (fun w1 h1 =>
        ⟨by rw [← HA.out]; exact (HWR.out _ h1).cells.2.2, hq2 _ (HWR.out _ h1).below⟩)
      clear hq hq2 hA hq1 hq1'
      go_wp2_with (
        (at_builtin; go_must (refine wpList_app2 rfl _ _ 91 rfl B4 9 (.string ⟨#[]⟩) 1 16 Tryz.underlying91 infoStr rfl (by decide) _ (d.zn + i) _ rfl (hown4.alloc (.cells #[.string q.name] 9)) ⟨wr.heap.size, 0, none⟩ 1 1 [.string q.name] rfl rfl (laid_at (cs := #[.string q.name])) (by intro u hu; simp at hu; subst hu; rfl) (by unfold maxLen; omega) (by omega) (by simp; omega) ?_); intro v' w1 hown4' hg1 hn1))
      obtain ⟨hown7', hap'⟩ := own_apart (hown7.alloc (.cells #[.string q.name] 9)) hg1 hap.out hn1
      have hb1 : Below B4 W w1 := (hb.alloc (by omega) (.cells #[.string q.name] 9)).grown hg1 (by simp; omega) (fun k hk => ((hown4.alloc (.cells #[.string q.name] 9)).lt k hk).1)
      obtain ⟨k2, m0, m1⟩ := HC.out _ hb1
      have HAP := Lib.hid hap'
      clear hap' hap hg1 hn1 hown7 hown4 c0 c1 c2 e0 e1
      have HO7 : Hid ((w1.alloc (.cells #[.string q.name, .string q.to] 9)).ownsRow B7 9 1 u7 (d.sn + d.zn + 2 * i) (strs (sNames d ++ zNames d ++ (d.ls.take i).flatMap linkTexts))) := Lib.hid (hown7'.alloc _)
      have HO4 : Hid ((w1.alloc (.cells #[.string q.name, .string q.to] 9)).ownsRow B4 9 1 v' (d.zn + i + 1) (strs (zNames d ++ (lNames d).take i) ++ [.string q.name])) := Lib.hid (hown4'.alloc _)
      have HLA : Hid (∀ j u, [Value.string q.name, .string q.to][j]? = some u → (w1.alloc (.cells #[.string q.name, .string q.to] 9)).cell? ((⟨w1.heap.size, 0, none⟩ : Addr).add j) = some u) := Lib.hid (laid_at (cs := #[.string q.name, .string q.to]))
      have HB1 : Hid (Below B4 W (w1.alloc (.cells #[.string q.name, .string q.to] 9))) := Lib.hid (hb1.alloc (by have := hb1.size; omega) _)
      have hz1 := hb1.size
      clear hown4' hown7' hb1
      go_region_law (refine step_append_lies _ rfl _ _ 91 rfl B7 9 i0 (.string ⟨#[]⟩) 1 16 Tryz.underlying91 hI.out hZ0.out hZ1.out hZ2.out rfl (by decide) u7 (d.sn + d.zn + 2 * i) _ rfl HO7.out ⟨w1.heap.size, 0, none⟩ 2 2 [.string q.name, .string q.to] rfl rfl HLA.out (by intro u hu; simp at hu; rcases hu with rfl | rfl <;> rfl) (by decide) (by unfold maxLen; omega) (by omega) (by simp; omega) _ rfl ?_; intro g cap w3 hown7f hg2 hat hlt)
      all_goals
        have hnear := near_of (n := d.sn + d.zn + 2 * i + 2) (cap := cap) hat rfl
        have hAP := fun h2 => own_apart (v2 := v') (B2 := B4) (n2 := d.zn + i + 1) (xs2 := strs (zNames d ++ (lNames d).take i) ++ [.string q.name]) (e := 9) (sz := 1) h2 hg2 HAP.out.symm hnear
        obtain ⟨hown4f, hap2⟩ := hAP HO4.out
        have hb3 : Below B4 W w3 := (show Below B4 W _ from below_drew' HB1.out).grown hg2 (by simp; omega) (fun k hk => by have := (HO7.out.lt k hk).1; omega)
        have HAP2 := Lib.hid hap2.symm
        clear hap2 hg2 hat hlt hnear hAP
        go_wp2
        go_roundw
        case rel => exact ⟨i + 1, by omega, by go_num, by rw [HT4.out]; exact hown4f, by rw [HT7.out]; exact hown7f, HAP2, hb3⟩
        case measure => simp [intOf]; omega
    · have hin : i = d.ln := by omega
      have hX4 : SlB wr wr.heap.size (d.zn + d.ln) (zNames d ++ lNames d) u4 := by
        have h1 := hown4
        rw [List.take_of_length_le (by unfold lNames; rw [List.length_map, HLE.out]; omega), hin] at h1
        exact own_SlB h1 (by unfold maxLen; omega)
      have hX7 : SlB wr wr.heap.size (d.sn + d.zn + 2 * d.ln) (allR d) u7 := by
        have h1 := hown7
        rw [List.take_of_length_le (by rw [HLE.out]; omega), hin] at h1
        exact own_SlB h1 (by unfold maxLen; omega)
      have HX4 := Lib.hid hX4
      have HX7 := Lib.hid hX7
      clear hX4 hX7 hown4 hown7 hap hin
      go_wp2
      exact HK.out _ _ _ _ ⟨rfl, ⟨rfl, rfl, rfl, rfl, trivial⟩, rfl, HWR.out _ hb⟩ HX4.out HX7.out hb
end Go.Proofs.YtlngalmdidaahaaGreatDoor
end
/-! gnomonref.CheckData: the links' aims; the whole. -/
section
set_option linter.unusedVariables false
set_option linter.unusedSimpArgs false
namespace Go.Proofs.YtlngalmdidaahaaGreatDoor
open Go.RowKit Gno
set_option maxRecDepth 100000 in
set_option maxHeartbeats 8000000 in
theorem rt12 {d : Dt} {w W : World} {a : Act} {K : Act → World → Prop} (hD : DataAt w w.heap.size d) (hE : dataE d = dE9 d) (hL : LiveR d w [] a W)
    (hK : ∀ a' W', anyI (fun _ => noTo d) (lTos d) = false → LiveR d w [] a' W' → K a' W') :
    (stmR 12).wp Tryz.prog (Exit.then K (QR d w)) a W := by
  obtain ⟨f, rfl, hws⟩ := openR0 hL
  clear hL
  have HW := Lib.hid hws
  have HK := Lib.hid hK
  have HE := Lib.hid hE
  have hsz := hws.size
  have HD := Lib.hid ((hD.next hws.below).2.2.1)
  have hn : d.ln ≤ 9223372036854775807 := HD.out.2.1
  have HLE : Hid ((lTos d).length = d.ln) := Lib.hid (by rw [← HD.out.1]; simp [lNames, lTos])
  have HDN : Hid (∀ w', Below W.heap.size W w' → DataAt w' w'.heap.size d) := Lib.hid (fun w' h => hD.next (hws.step h).below)
  have CZ : Hid (∀ s w' (A : Prop), (Below W.heap.size W w' ∧ A) → Calls Tryz.prog 50 #[.agg #[.slice d.sA d.sn d.sc, .slice d.zA d.zn d.zc, .slice d.lA d.ln d.lc], .string s] w' fun e w2 => e = .returned (.int .i64 (zoneN d s)) ∧ Below W.heap.size W w2) := Lib.hid (fun s w' A h =>
    (zoneN_any d s w' (HDN.out _ h.1)).mono fun _ _ h2 => ⟨h2.1, h.1.trans (h2.2.mono h.1.size)⟩)
  have CL : Hid (∀ s w' (A : Prop), (Below W.heap.size W w' ∧ A) → Calls Tryz.prog 51 #[.agg #[.slice d.sA d.sn d.sc, .slice d.zA d.zn d.zc, .slice d.lA d.ln d.lc], .string s] w' fun e w2 => e = .returned (.int .i64 (linkN d s)) ∧ Below W.heap.size W w2) := Lib.hid (fun s w' A h =>
    (linkN_any d s w' (HDN.out _ h.1)).mono fun _ _ h2 => ⟨h2.1, h.1.trans (h2.2.mono h.1.size)⟩)
  have CF : Hid (∀ s w' (A : Prop), (Below W.heap.size W w' ∧ A) → Calls Tryz.prog 52 #[.agg #[.slice d.sA d.sn d.sc, .slice d.zA d.zn d.zc, .slice d.lA d.ln d.lc], .string s] w' fun e w2 => e = .returned (.int .i64 (leadN d s)) ∧ Below W.heap.size W w2) := Lib.hid (fun s w' A h =>
    (follow_any d s w' (HDN.out _ h.1)).mono fun _ _ h2 => ⟨h2.1, h.1.trans (h2.2.mono h.1.size)⟩)
  clear hws hK hE hD
  conv => arg 2; whnf
  go_wp2
  go_loopw [19] (fun b wr => ∃ i : Nat, i ≤ d.ln ∧ b = .int .i64 i ∧ Hid (anyTo (atI (fun _ => noTo d) (lTos d)) i = false) ∧ Below W.heap.size W wr) (fun b _ => d.ln - (intOf b).toNat)
  case atStart => exact ⟨0, Nat.zero_le _, rfl, Lib.hid rfl, Below.refl _ _⟩
  case round =>
    obtain ⟨i, hi, rfl, hfi, hb⟩ := hrel
    by_cases hit : i < d.ln
    · obtain ⟨b, o, q, hA, hbB, hq, hq1, hq1', hq2⟩ := links_get HD.out hit
      have HQ := Lib.hid hq
      have HA := Lib.hid hA
      have HC : Hid (∀ w1, Below W.heap.size W w1 → w1.cell? ⟨w.heap.size, 0, none⟩ = some (.slice d.sA d.sn d.sc) ∧ w1.cell? ⟨w.heap.size, 1, none⟩ = some (.slice d.zA d.zn d.zc) ∧ w1.cell? ⟨w.heap.size, 2, none⟩ = some (.slice (some ⟨b, o, none⟩) d.ln d.lc) ∧ w1.cell? ⟨b, o + i * 2, none⟩ = some (.string q.name) ∧ w1.cell? ⟨b, o + i * 2 + 1, none⟩ = some (.string q.to)) := Lib.hid (fun w1 h1 =>
        ⟨(HW.out.step h1).cells.1, (HW.out.step h1).cells.2.1, by rw [← HA.out]; exact (HW.out.step h1).cells.2.2, hq2 _ h1⟩)
      rw [hA] at CZ CL CF
      clear hq hq2 hA hq1 hq1'
      obtain ⟨c0, c1, c2, e0, e1⟩ := HC.out _ hb
      have HQT : Hid ((lTos d)[i]? = some q.to) := Lib.hid (by simp [lTos, HQ.out])
      by_cases hz : 0 ≤ zoneN d q.to
      · have g1 : decide (zoneN d q.to < 0) = false := by simp; omega
        have HM := Lib.hid (anyI_no (p := fun _ => noTo d) HQT.out hfi.out (by unfold noTo; rw [zoneN_has, decide_eq_true hz]; rfl))
        clear hz hfi
        have CZ2 : Hid (∀ w', Below W.heap.size W w' → Calls Tryz.prog 50 #[.agg #[.slice d.sA d.sn d.sc, .slice d.zA d.zn d.zc, .slice (some ⟨b, o, none⟩) d.ln d.lc], .string q.to] w' fun e w2 => e = .returned (.int .i64 (zoneN d q.to)) ∧ Below W.heap.size W w2) := Lib.hid (fun w' h => CZ.out q.to w' True ⟨h, trivial⟩)
        go_wp2
        refine wp_region_held_drew (S := (fun w' => Below W.heap.size W w' ∧ w'.cell? ⟨w.heap.size, 0, none⟩ = some (.slice d.sA d.sn d.sc) ∧ w'.cell? ⟨w.heap.size, 1, none⟩ = some (.slice d.zA d.zn d.zc) ∧ w'.cell? ⟨w.heap.size, 2, none⟩ = some (.slice (some ⟨b, o, none⟩) d.ln d.lc) ∧ w'.cell? ⟨b, o + i * 2, none⟩ = some (.string q.name) ∧ w'.cell? ⟨b, o + i * 2 + 1, none⟩ = some (.string q.to))) (by kernel_rfl) ?_ (fun hHeld => ?_)
        · (refine ⟨?_, ?_, ?_, ?_, ?_, ?_⟩ <;> (first | assumption | exact Below.drew (by assumption) | go_keep))
        refine wpAnyH_take (i := 0) (oi := _) (v := ?_) rfl (by kernel_rfl) (by kernel_rfl) (by kernel_rfl) (fun _ _ _ h => h) (Or.inl ⟨by rfl, ?_⟩) (by assumption) ?_
        rotate_left
        · intro w hSw; (try dsimp only at hSw); (go_simp <;> with_reducible rfl)
        simp only [List.getElem_toArray, List.getElem_cons_zero, List.getElem_cons_succ, Act.put, List.setIfInBounds_toArray, List.set_cons_zero, List.set_cons_succ]
        refine wpAnyH_take (i := 1) (oi := _) (v := ?_) rfl (by kernel_rfl) (by kernel_rfl) (by kernel_rfl) (fun _ _ _ h => h) (Or.inl ⟨by rfl, ?_⟩) (by assumption) ?_
        rotate_left
        · intro w hSw; (try dsimp only at hSw); (go_simp <;> with_reducible rfl)
        simp only [List.getElem_toArray, List.getElem_cons_zero, List.getElem_cons_succ, Act.put, List.setIfInBounds_toArray, List.set_cons_zero, List.set_cons_succ]
        refine wpAnyH_take (i := 2) (oi := _) (v := ?_) rfl (by kernel_rfl) (by kernel_rfl) (by kernel_rfl) (fun _ _ _ h => h) (Or.inl ⟨by rfl, ?_⟩) (by assumption) ?_
        rotate_left
        · intro w hSw; (try dsimp only at hSw); (go_simp <;> with_reducible rfl)
        simp only [List.getElem_toArray, List.getElem_cons_zero, List.getElem_cons_succ, Act.put, List.setIfInBounds_toArray, List.set_cons_zero, List.set_cons_succ]
        refine wpAnyH_take (i := 3) (oi := _) (v := ?_) rfl (by kernel_rfl) (by kernel_rfl) (by kernel_rfl) (fun _ _ _ h => h) (Or.inl ⟨by rfl, ?_⟩) (by assumption) ?_
        rotate_left
        · intro w hSw; (try dsimp only at hSw); (go_simp <;> with_reducible rfl)
        simp only [List.getElem_toArray, List.getElem_cons_zero, List.getElem_cons_succ, Act.put, List.setIfInBounds_toArray, List.set_cons_zero, List.set_cons_succ]
        refine wpAnyH_take (i := 4) (oi := _) (v := ?_) rfl (by kernel_rfl) (by kernel_rfl) (by kernel_rfl) (fun _ _ _ h => h) (Or.inl ⟨by rfl, ?_⟩) (by assumption) ?_
        rotate_left
        · intro w hSw; (try dsimp only at hSw); (go_simp <;> with_reducible rfl)
        simp only [List.getElem_toArray, List.getElem_cons_zero, List.getElem_cons_succ, Act.put, List.setIfInBounds_toArray, List.set_cons_zero, List.set_cons_succ]
        refine wpAnyH_take (i := 5) (oi := _) (v := ?_) rfl (by kernel_rfl) (by kernel_rfl) (by kernel_rfl) (fun _ _ _ h => h) (Or.inl ⟨by rfl, ?_⟩) (by assumption) ?_
        rotate_left
        · intro w hSw; (try dsimp only at hSw); (go_simp <;> with_reducible rfl)
        simp only [List.getElem_toArray, List.getElem_cons_zero, List.getElem_cons_succ, Act.put, List.setIfInBounds_toArray, List.set_cons_zero, List.set_cons_succ]
        refine wpAnyH_take (i := 6) (oi := _) (v := ?_) rfl (by kernel_rfl) (by kernel_rfl) (by kernel_rfl) (fun _ _ _ h => h) (Or.inl ⟨by rfl, ?_⟩) (by assumption) ?_
        rotate_left
        · intro w hSw; (try dsimp only at hSw); (go_simp <;> with_reducible rfl)
        simp only [List.getElem_toArray, List.getElem_cons_zero, List.getElem_cons_succ, Act.put, List.setIfInBounds_toArray, List.set_cons_zero, List.set_cons_succ]
        refine wpAnyH_ready (rs := [7]) (by kernel_rfl) (by simp) ?_
        refine AllReadyH.cons (o := _) rfl (fun K hK => ?_) AllReadyH.nil
        simp only [List.getElem_toArray, List.getElem_cons_zero, List.getElem_cons_succ]
        go_simp
        refine (CZ2.out _ hHeld.1).mono ?_
        rintro e w4 ⟨rfl, hb5⟩
        obtain ⟨k0, k1, k2, k3, k4⟩ := HC.out _ hb5
        go_wp2_with fail
        refine hK.out _ _ ?_ (fun hHeld => ?_)
        · (refine ⟨?_, ?_, ?_, ?_, ?_, ?_⟩ <;> (first | assumption | exact Below.drew (by assumption) | go_keep))
        clear hK K
        refine wpAnyH_take (i := 8) (oi := _) (v := ?_) rfl (by kernel_rfl) (by kernel_rfl) (by kernel_rfl) (fun _ _ _ h => h) (Or.inl ⟨by rfl, ?_⟩) (by assumption) ?_
        rotate_left
        · intro w hSw; (try dsimp only at hSw); (go_simp <;> with_reducible rfl)
        simp only [List.getElem_toArray, List.getElem_cons_zero, List.getElem_cons_succ, Act.put, List.setIfInBounds_toArray, List.set_cons_zero, List.set_cons_succ]
        refine wpAnyH_take (i := 9) (oi := _) (v := ?_) rfl (by kernel_rfl) (by kernel_rfl) (by kernel_rfl) (fun _ _ _ h => h) (Or.inl ⟨by rfl, ?_⟩) (by assumption) ?_
        rotate_left
        · intro w hSw; (try dsimp only at hSw); (go_simp <;> with_reducible rfl)
        simp only [List.getElem_toArray, List.getElem_cons_zero, List.getElem_cons_succ, Act.put, List.setIfInBounds_toArray, List.set_cons_zero, List.set_cons_succ]
        refine wpAnyH_take (i := 10) (oi := _) (v := undef) rfl (by kernel_rfl) (by kernel_rfl) (by kernel_rfl) (fun _ _ _ h => h) (Or.inr ⟨by rfl, rfl⟩) (by assumption) ?_
        simp only [List.getElem_toArray, List.getElem_cons_zero, List.getElem_cons_succ, Act.put, List.setIfInBounds_toArray, List.set_cons_zero, List.set_cons_succ]
        refine wpAnyH_take (i := 11) (oi := _) (v := undef) rfl (by kernel_rfl) (by kernel_rfl) (by kernel_rfl) (fun _ _ _ h => h) (Or.inr ⟨by rfl, rfl⟩) (by assumption) ?_
        simp only [List.getElem_toArray, List.getElem_cons_zero, List.getElem_cons_succ, Act.put, List.setIfInBounds_toArray, List.set_cons_zero, List.set_cons_succ]
        refine wpAnyH_take (i := 12) (oi := _) (v := undef) rfl (by kernel_rfl) (by kernel_rfl) (by kernel_rfl) (fun _ _ _ h => h) (Or.inr ⟨by rfl, rfl⟩) (by assumption) ?_
        simp only [List.getElem_toArray, List.getElem_cons_zero, List.getElem_cons_succ, Act.put, List.setIfInBounds_toArray, List.set_cons_zero, List.set_cons_succ]
        refine wpAnyH_take (i := 13) (oi := _) (v := undef) rfl (by kernel_rfl) (by kernel_rfl) (by kernel_rfl) (fun _ _ _ h => h) (Or.inr ⟨by rfl, rfl⟩) (by assumption) ?_
        simp only [List.getElem_toArray, List.getElem_cons_zero, List.getElem_cons_succ, Act.put, List.setIfInBounds_toArray, List.set_cons_zero, List.set_cons_succ]
        refine wpAnyH_take (i := 14) (oi := _) (v := undef) rfl (by kernel_rfl) (by kernel_rfl) (by kernel_rfl) (fun _ _ _ h => h) (Or.inr ⟨by rfl, rfl⟩) (by assumption) ?_
        simp only [List.getElem_toArray, List.getElem_cons_zero, List.getElem_cons_succ, Act.put, List.setIfInBounds_toArray, List.set_cons_zero, List.set_cons_succ]
        refine wpAnyH_take (i := 15) (oi := _) (v := undef) rfl (by kernel_rfl) (by kernel_rfl) (by kernel_rfl) (fun _ _ _ h => h) (Or.inr ⟨by rfl, rfl⟩) (by assumption) ?_
        simp only [List.getElem_toArray, List.getElem_cons_zero, List.getElem_cons_succ, Act.put, List.setIfInBounds_toArray, List.set_cons_zero, List.set_cons_succ]
        refine wpAnyH_take (i := 16) (oi := _) (v := undef) rfl (by kernel_rfl) (by kernel_rfl) (by kernel_rfl) (fun _ _ _ h => h) (Or.inr ⟨by rfl, rfl⟩) (by assumption) ?_
        simp only [List.getElem_toArray, List.getElem_cons_zero, List.getElem_cons_succ, Act.put, List.setIfInBounds_toArray, List.set_cons_zero, List.set_cons_succ]
        refine wpAnyH_take (i := 17) (oi := _) (v := undef) rfl (by kernel_rfl) (by kernel_rfl) (by kernel_rfl) (fun _ _ _ h => h) (Or.inr ⟨by rfl, rfl⟩) (by assumption) ?_
        simp only [List.getElem_toArray, List.getElem_cons_zero, List.getElem_cons_succ, Act.put, List.setIfInBounds_toArray, List.set_cons_zero, List.set_cons_succ]
        refine wpAnyH_take (i := 18) (oi := _) (v := undef) rfl (by kernel_rfl) (by kernel_rfl) (by kernel_rfl) (fun _ _ _ h => h) (Or.inr ⟨by rfl, rfl⟩) (by assumption) ?_
        simp only [List.getElem_toArray, List.getElem_cons_zero, List.getElem_cons_succ, Act.put, List.setIfInBounds_toArray, List.set_cons_zero, List.set_cons_succ]
        refine wpAnyH_take (i := 19) (oi := _) (v := ?_) rfl (by kernel_rfl) (by kernel_rfl) (by kernel_rfl) (fun _ _ _ h => h) (Or.inl ⟨by rfl, ?_⟩) (by assumption) ?_
        rotate_left
        · intro w hSw; (try dsimp only at hSw); (go_simp <;> with_reducible rfl)
        simp only [List.getElem_toArray, List.getElem_cons_zero, List.getElem_cons_succ, Act.put, List.setIfInBounds_toArray, List.set_cons_zero, List.set_cons_succ]
        refine wpAnyH_done (by kernel_rfl) ?_ _
        go_wp2
        go_roundw
        case rel => exact ⟨i + 1, by omega, by go_num, HM, by assumption⟩
        case measure => simp [intOf]; omega
      · have g1 : decide (zoneN d q.to < 0) = true := by simp; omega
        by_cases hl : 0 ≤ linkN d q.to
        · have g2 : decide (linkN d q.to < 0) = false := by simp; omega
          have HM := Lib.hid (anyI_no (p := fun _ => noTo d) HQT.out hfi.out (by unfold noTo; rw [linkN_has, decide_eq_true hl]; simp))
          clear hz hl hfi
          go_wp2
          first | (go_region_held3 (fun w' => Below W.heap.size W w' ∧ w'.cell? ⟨w.heap.size, 0, none⟩ = some (.slice d.sA d.sn d.sc) ∧ w'.cell? ⟨w.heap.size, 1, none⟩ = some (.slice d.zA d.zn d.zc) ∧ w'.cell? ⟨w.heap.size, 2, none⟩ = some (.slice (some ⟨b, o, none⟩) d.ln d.lc) ∧ w'.cell? ⟨b, o + i * 2, none⟩ = some (.string q.name) ∧ w'.cell? ⟨b, o + i * 2 + 1, none⟩ = some (.string q.to))
            (refine ⟨?_, ?_, ?_, ?_, ?_, ?_⟩ <;> (first | assumption | exact Below.drew (by assumption) | go_keep))
            (first
              | (go_at_call 50; refine (CZ.out _ _ _ (by assumption)).mono ?_; rintro e w4 ⟨rfl, hb5⟩; obtain ⟨k0, k1, k2, k3, k4⟩ := HC.out _ hb5)
              | (go_at_call 51; refine (CL.out _ _ _ (by assumption)).mono ?_; rintro e w4 ⟨rfl, hb5⟩; obtain ⟨k0, k1, k2, k3, k4⟩ := HC.out _ hb5)
              | (go_at_call 52; refine (CF.out _ _ _ (by assumption)).mono ?_; rintro e w4 ⟨rfl, hb5⟩; obtain ⟨k0, k1, k2, k3, k4⟩ := HC.out _ hb5))) | fail
          go_wp2
          go_roundw
          case rel => exact ⟨i + 1, by omega, by go_num, HM, by assumption⟩
          case measure => simp [intOf]; omega
        · have g2 : decide (linkN d q.to < 0) = true := by simp; omega
          have HM : Hid (dataE d = 4) := Lib.hid (by
            rw [HE.out]; unfold dE9
            rw [if_pos (anyI_yes HQT.out (by unfold noTo; rw [zoneN_has, linkN_has, decide_eq_false hz, decide_eq_false hl]; rfl))])
          clear hz hl hfi
          go_wp2
          first | (go_region_held3 (fun w' => Below W.heap.size W w' ∧ w'.cell? ⟨w.heap.size, 0, none⟩ = some (.slice d.sA d.sn d.sc) ∧ w'.cell? ⟨w.heap.size, 1, none⟩ = some (.slice d.zA d.zn d.zc) ∧ w'.cell? ⟨w.heap.size, 2, none⟩ = some (.slice (some ⟨b, o, none⟩) d.ln d.lc) ∧ w'.cell? ⟨b, o + i * 2, none⟩ = some (.string q.name) ∧ w'.cell? ⟨b, o + i * 2 + 1, none⟩ = some (.string q.to))
            (refine ⟨?_, ?_, ?_, ?_, ?_, ?_⟩ <;> (first | assumption | exact Below.drew (by assumption) | go_keep))
            (first
              | (go_at_call 50; refine (CZ.out _ _ _ (by assumption)).mono ?_; rintro e w4 ⟨rfl, hb5⟩; obtain ⟨k0, k1, k2, k3, k4⟩ := HC.out _ hb5)
              | (go_at_call 51; refine (CL.out _ _ _ (by assumption)).mono ?_; rintro e w4 ⟨rfl, hb5⟩; obtain ⟨k0, k1, k2, k3, k4⟩ := HC.out _ hb5)
              | (go_at_call 52; refine (CF.out _ _ _ (by assumption)).mono ?_; rintro e w4 ⟨rfl, hb5⟩; obtain ⟨k0, k1, k2, k3, k4⟩ := HC.out _ hb5))) | fail
          go_wp2
          go_ret
          exact ⟨ret_int HM.out.symm, (HW.out.step (by assumption)).below⟩
    · have HM := Lib.hid (anyI_end (by rw [HLE.out]; omega) (by rw [HLE.out]; exact hi) hfi.out)
      obtain ⟨c0, c1, c2⟩ := (HW.out.step hb).cells
      clear hfi
      go_wp2
      exact HK.out _ _ HM.out ⟨rfl, ⟨rfl, trivial⟩, rfl, HW.out.step hb⟩
set_option maxRecDepth 100000 in
set_option maxHeartbeats 8000000 in
theorem rt13 {d : Dt} {w W : World} {a : Act} {K : Act → World → Prop} (hD : DataAt w w.heap.size d) (hE : dataE d = dE10 d) (hL : LiveR d w [] a W)
    (hK : ∀ a' W', anyI (fun _ => noLead d) (lNames d) = false → LiveR d w [] a' W' → K a' W') :
    (stmR 13).wp Tryz.prog (Exit.then K (QR d w)) a W := by
  obtain ⟨f, rfl, hws⟩ := openR0 hL
  clear hL
  have HW := Lib.hid hws
  have HK := Lib.hid hK
  have HE := Lib.hid hE
  have hsz := hws.size
  have HD := Lib.hid ((hD.next hws.below).2.2.1)
  have hn : d.ln ≤ 9223372036854775807 := HD.out.2.1
  have HLE : Hid ((lNames d).length = d.ln) := Lib.hid (by rw [← HD.out.1]; simp [lNames, lTos])
  have HDN : Hid (∀ w', Below W.heap.size W w' → DataAt w' w'.heap.size d) := Lib.hid (fun w' h => hD.next (hws.step h).below)
  have CZ : Hid (∀ s w' (A : Prop), (Below W.heap.size W w' ∧ A) → Calls Tryz.prog 50 #[.agg #[.slice d.sA d.sn d.sc, .slice d.zA d.zn d.zc, .slice d.lA d.ln d.lc], .string s] w' fun e w2 => e = .returned (.int .i64 (zoneN d s)) ∧ Below W.heap.size W w2) := Lib.hid (fun s w' A h =>
    (zoneN_any d s w' (HDN.out _ h.1)).mono fun _ _ h2 => ⟨h2.1, h.1.trans (h2.2.mono h.1.size)⟩)
  have CL : Hid (∀ s w' (A : Prop), (Below W.heap.size W w' ∧ A) → Calls Tryz.prog 51 #[.agg #[.slice d.sA d.sn d.sc, .slice d.zA d.zn d.zc, .slice d.lA d.ln d.lc], .string s] w' fun e w2 => e = .returned (.int .i64 (linkN d s)) ∧ Below W.heap.size W w2) := Lib.hid (fun s w' A h =>
    (linkN_any d s w' (HDN.out _ h.1)).mono fun _ _ h2 => ⟨h2.1, h.1.trans (h2.2.mono h.1.size)⟩)
  have CF : Hid (∀ s w' (A : Prop), (Below W.heap.size W w' ∧ A) → Calls Tryz.prog 52 #[.agg #[.slice d.sA d.sn d.sc, .slice d.zA d.zn d.zc, .slice d.lA d.ln d.lc], .string s] w' fun e w2 => e = .returned (.int .i64 (leadN d s)) ∧ Below W.heap.size W w2) := Lib.hid (fun s w' A h =>
    (follow_any d s w' (HDN.out _ h.1)).mono fun _ _ h2 => ⟨h2.1, h.1.trans (h2.2.mono h.1.size)⟩)
  clear hws hK hE hD
  conv => arg 2; whnf
  go_wp2
  go_loopw [20] (fun b wr => ∃ i : Nat, i ≤ d.ln ∧ b = .int .i64 i ∧ Hid (anyTo (atI (fun _ => noLead d) (lNames d)) i = false) ∧ Below W.heap.size W wr) (fun b _ => d.ln - (intOf b).toNat)
  case atStart => exact ⟨0, Nat.zero_le _, rfl, Lib.hid rfl, Below.refl _ _⟩
  case round =>
    obtain ⟨i, hi, rfl, hfi, hb⟩ := hrel
    by_cases hit : i < d.ln
    · obtain ⟨b, o, q, hA, hbB, hq, hq1, hq1', hq2⟩ := links_get HD.out hit
      have HQ := Lib.hid hq
      have HA := Lib.hid hA
      have HC : Hid (∀ w1, Below W.heap.size W w1 → w1.cell? ⟨w.heap.size, 0, none⟩ = some (.slice d.sA d.sn d.sc) ∧ w1.cell? ⟨w.heap.size, 1, none⟩ = some (.slice d.zA d.zn d.zc) ∧ w1.cell? ⟨w.heap.size, 2, none⟩ = some (.slice (some ⟨b, o, none⟩) d.ln d.lc) ∧ w1.cell? ⟨b, o + i * 2, none⟩ = some (.string q.name) ∧ w1.cell? ⟨b, o + i * 2 + 1, none⟩ = some (.string q.to)) := Lib.hid (fun w1 h1 =>
        ⟨(HW.out.step h1).cells.1, (HW.out.step h1).cells.2.1, by rw [← HA.out]; exact (HW.out.step h1).cells.2.2, hq2 _ h1⟩)
      rw [hA] at CZ CL CF
      clear hq hq2 hA hq1 hq1'
      obtain ⟨c0, c1, c2, e0, e1⟩ := HC.out _ hb
      have HQT : Hid ((lNames d)[i]? = some q.name) := Lib.hid (by simp [lNames, HQ.out])
      by_cases hz : leadN d q.name < 0
      · have g1 : decide (leadN d q.name < 0) = true := by simpa using hz
        have HM : Hid (dataE d = 7) := Lib.hid (by
          rw [HE.out]; unfold dE10
          rw [if_pos (anyI_yes HQT.out (by unfold noLead; exact decide_eq_true hz))])
        clear hz hfi
        go_wp2
        first | (go_region_held3 (fun w' => Below W.heap.size W w' ∧ w'.cell? ⟨w.heap.size, 0, none⟩ = some (.slice d.sA d.sn d.sc) ∧ w'.cell? ⟨w.heap.size, 1, none⟩ = some (.slice d.zA d.zn d.zc) ∧ w'.cell? ⟨w.heap.size, 2, none⟩ = some (.slice (some ⟨b, o, none⟩) d.ln d.lc) ∧ w'.cell? ⟨b, o + i * 2, none⟩ = some (.string q.name) ∧ w'.cell? ⟨b, o + i * 2 + 1, none⟩ = some (.string q.to))
          (refine ⟨?_, ?_, ?_, ?_, ?_, ?_⟩ <;> (first | assumption | exact Below.drew (by assumption) | go_keep))
          (first
            | (go_at_call 50; refine (CZ.out _ _ _ (by assumption)).mono ?_; rintro e w4 ⟨rfl, hb5⟩; obtain ⟨k0, k1, k2, k3, k4⟩ := HC.out _ hb5)
            | (go_at_call 51; refine (CL.out _ _ _ (by assumption)).mono ?_; rintro e w4 ⟨rfl, hb5⟩; obtain ⟨k0, k1, k2, k3, k4⟩ := HC.out _ hb5)
            | (go_at_call 52; refine (CF.out _ _ _ (by assumption)).mono ?_; rintro e w4 ⟨rfl, hb5⟩; obtain ⟨k0, k1, k2, k3, k4⟩ := HC.out _ hb5))) | fail
        go_wp2
        go_ret
        exact ⟨ret_int HM.out.symm, (HW.out.step (by assumption)).below⟩
      · have g1 : decide (leadN d q.name < 0) = false := by simpa using hz
        have HM := Lib.hid (anyI_no (p := fun _ => noLead d) HQT.out hfi.out (by unfold noLead; exact decide_eq_false hz))
        clear hz hfi
        go_wp2
        first | (go_region_held3 (fun w' => Below W.heap.size W w' ∧ w'.cell? ⟨w.heap.size, 0, none⟩ = some (.slice d.sA d.sn d.sc) ∧ w'.cell? ⟨w.heap.size, 1, none⟩ = some (.slice d.zA d.zn d.zc) ∧ w'.cell? ⟨w.heap.size, 2, none⟩ = some (.slice (some ⟨b, o, none⟩) d.ln d.lc) ∧ w'.cell? ⟨b, o + i * 2, none⟩ = some (.string q.name) ∧ w'.cell? ⟨b, o + i * 2 + 1, none⟩ = some (.string q.to))
          (refine ⟨?_, ?_, ?_, ?_, ?_, ?_⟩ <;> (first | assumption | exact Below.drew (by assumption) | go_keep))
          (first
            | (go_at_call 50; refine (CZ.out _ _ _ (by assumption)).mono ?_; rintro e w4 ⟨rfl, hb5⟩; obtain ⟨k0, k1, k2, k3, k4⟩ := HC.out _ hb5)
            | (go_at_call 51; refine (CL.out _ _ _ (by assumption)).mono ?_; rintro e w4 ⟨rfl, hb5⟩; obtain ⟨k0, k1, k2, k3, k4⟩ := HC.out _ hb5)
            | (go_at_call 52; refine (CF.out _ _ _ (by assumption)).mono ?_; rintro e w4 ⟨rfl, hb5⟩; obtain ⟨k0, k1, k2, k3, k4⟩ := HC.out _ hb5))) | fail
        go_wp2
        go_roundw
        case rel => exact ⟨i + 1, by omega, by go_num, HM, by assumption⟩
        case measure => simp [intOf]; omega
    · have HM := Lib.hid (anyI_end (by rw [HLE.out]; omega) (by rw [HLE.out]; exact hi) hfi.out)
      obtain ⟨c0, c1, c2⟩ := (HW.out.step hb).cells
      clear hfi
      go_wp2
      exact HK.out _ _ HM.out ⟨rfl, ⟨rfl, trivial⟩, rfl, HW.out.step hb⟩
end Go.Proofs.YtlngalmdidaahaaGreatDoor
end
/-! gnomonref.CheckData, whole. -/
section
set_option linter.unusedVariables false
set_option linter.unusedSimpArgs false
namespace Go.Proofs.YtlngalmdidaahaaGreatDoor
open Go.RowKit Gno
theorem start_wr (d : Dt) (w : World) : WR d w (w.alloc (Dobj d)) :=
  ⟨(Below.refl _ _).alloc (Nat.le_refl _) _, World.alloc_heap_new w _, by simp⟩
theorem own_below {w w' : World} {B : Nat} {e : TypeId} {sz : Nat} {v : Value} {n : Nat} {xs : List Value} (h : w.ownsRow B e sz v n xs) (hb : Below w.heap.size w w') : w'.ownsRow B e sz v n xs := by
  refine ⟨h.1, ?_⟩
  rcases h.2 with h2 | ⟨g, cap, cur, h1, h2, h3, h4⟩
  · exact .inl h2
  · exact .inr ⟨g, cap, cur, h1, h2, (hb.block _ (Array.getElem?_eq_some_iff.1 h3).1).trans h3, h4⟩
theorem own_far {w w' : World} {B B' : Nat} {e e' : TypeId} {sz sz' : Nat} {v v' : Value} {n n' : Nat} {xs xs' : List Value} (h : w.ownsRow B e sz v n xs) (h' : w'.ownsRow B' e' sz' v' n' xs') (hB : w.heap.size ≤ B') : Apart v v' := by
  intro k h1 h2
  have := (h.lt k h1).2
  have := (h'.lt k h2).1
  omega
set_option maxRecDepth 100000 in
set_option maxHeartbeats 8000000 in
theorem checkData_any (d : Dt) (w : World) (hD : DataAt w w.heap.size d) :
    Calls Tryz.prog 22 #[d.val] w fun e w' => e = .returned (.int .i64 (dataE d)) ∧ Below w.heap.size w w' := by
  unfold Dt.val
  have HD := Lib.hid hD
  clear hD
  go_enter Tryz.func22, Tryz.ntmps22
  refine wp_seq_k fun K0 hK0 => ?_
  have HK0 := Lib.hid hK0
  clear hK0
  go_wp2
  refine HK0.out _ _ ?_
  clear HK0
  refine wp_seq_k fun K hK => rt1 ?hl fun a1 W1 hm hL1 => hK _ _ ?_
  case hl => exact ⟨rfl, ⟨rfl, trivial⟩, rfl, start_wr d w⟩
  clear hK
  have hE1 : dataE d = dE1 d := by unfold dataE; rw [if_neg (by rw [hm]; simp)]
  have hle := manyD_le hm
  refine wp_seq_k fun K hK => rt2 hL1 fun a2 hL2 => hK _ _ ?_
  clear hL1 hK
  refine wp_seq_k fun K hK => rt3 HD.out hm hE1 hL2 rfl fun a3 W3 v3 hm3 hL3 ho3 hb3 => hK _ _ ?_
  have hE2 : dataE d = dE2 d := by rw [hE1]; unfold dE1; rw [if_neg (by rw [hm3]; simp)]
  have hs2 := hL2.ws.size
  clear hL2 hK
  refine wp_seq_k fun K hK => rt4 HD.out hm hE2 hL3 rfl fun a4 W4 v4 hm4 hL4 ho4 hb4 => hK _ _ ?_
  have hE3 : dataE d = dE3 d := by rw [hE2]; unfold dE2; rw [if_neg (by rw [hm4]; simp)]
  have hs3 := hL3.ws.size
  clear hL3 hK
  have s3 := (own_SlB ho3 (by unfold maxLen; omega)).below hb4 (Nat.le_refl _)
  have s4 := own_SlB ho4 (by unfold maxLen; omega)
  refine wp_seq_k fun K hK => rt5 hm hL4 (s3.more hb4.size) s4 fun a5 W5 v7 hL5 ho7 hb5 => hK _ _ ?_
  clear hL4 hK
  have ho4' := own_below ho4 hb5
  have hap : Apart v4 v7 := own_far ho4 ho7 (Nat.le_refl _)
  have s3 := s3.below (hb5.mono hb4.size) (Nat.le_refl _)
  refine wp_seq_k fun K hK => rt6 HD.out hm hL5 ho4' ho7 hap hs3 hb4.size hb5.size fun a6 W6 v4 v7 hL6 s4 s7 hb6 => hK _ _ ?_
  clear hL5 hK hap ho4' ho7 ho4 ho3
  have s3 := s3.below hb6 (Nat.le_refl _)
  refine wp_seq_k fun K hK => rt7 HD.out (by omega) hE3 hL6 s7 fun a7 hm7 hL7 => hK _ _ ?_
  have hE4 : dataE d = dE4 d := by rw [hE3]; unfold dE3; rw [if_neg (by rw [hm7]; simp)]
  clear hL6 hK s7
  refine wp_seq_k fun K hK => rt8 hE4 hL7 (s3.more (by have := hb4.size; have := hb5.size; have := hb6.size; omega)) s4 fun a8 W8 hm8 hL8 => hK _ _ ?_
  have hE5 : dataE d = dE5 d := by rw [hE4]; unfold dE4; rw [if_neg (by rw [hm8]; simp)]
  clear hL7 hK s4 s3
  refine wp_seq_k fun K hK => rt9 HD.out hE5 hL8 fun a9 W9 hm9 hL9 => hK _ _ ?_
  have hE6 : dataE d = dE6 d := by rw [hE5]; unfold dE5; rw [if_neg (by rw [hm9]; simp)]
  clear hL8 hK
  refine wp_seq_k fun K hK => rt10 HD.out hm hE6 hL9 fun a10 W10 hm10 hL10 => hK _ _ ?_
  have hE8 : dataE d = dE8 d := by rw [hE6]; exact dE6_good hm10
  clear hL9 hK
  refine wp_seq_k fun K hK => rt11 HD.out hE8 hL10 fun a11 W11 hm11 hL11 => hK _ _ ?_
  have hE9 : dataE d = dE9 d := by rw [hE8]; unfold dE8; rw [if_neg (by rw [hm11]; simp)]
  clear hL10 hK
  refine wp_seq_k fun K hK => rt12 HD.out hE9 hL11 fun a12 W12 hm12 hL12 => hK _ _ ?_
  have hE10 : dataE d = dE10 d := by rw [hE9]; unfold dE9; rw [if_neg (by rw [hm12]; simp)]
  clear hL11 hK
  refine wp_seq_k fun K hK => rt13 HD.out hE10 hL12 fun a13 W13 hm13 hL13 => hK _ _ ?_
  have hE0 : dataE d = 0 := by rw [hE10]; unfold dE10; rw [if_neg (by rw [hm13]; simp)]
  clear hL12 hK
  obtain ⟨f, rfl, hws⟩ := openR0 hL13
  have HW := Lib.hid hws
  have HE := Lib.hid hE0
  clear hL13 hws hE0 hE1 hE2 hE3 hE4 hE5 hE6 hE8 hE9 hE10 hm hm3 hm4 hm7 hm8 hm9 hm10 hm11 hm12 hm13 hle
  go_wp2
  go_ret
  exact ⟨ret_int HE.out.symm, HW.out.below⟩
end Go.Proofs.YtlngalmdidaahaaGreatDoor
end
/-! data.Zone and gnomonref.ZoneOf. -/
section
set_option linter.unusedVariables false
set_option linter.unusedSimpArgs false
namespace Gno
open Go
noncomputable def zoneK (d : Dt) (nm : ByteArray) : Int := if dataE d ≠ 0 then 0 else if leadN d nm < 0 then 0 else leadN d nm
noncomputable def zoneEr (d : Dt) (nm : ByteArray) : Int := if dataE d ≠ 0 then dataE d else if leadN d nm < 0 then 4 else 0
theorem zone_bad {d : Dt} {nm : ByteArray} (h : dataE d ≠ 0) : zoneK d nm = 0 ∧ zoneEr d nm = dataE d := by unfold zoneK zoneEr; rw [if_pos h, if_pos h]; exact ⟨rfl, rfl⟩
theorem zone_none {d : Dt} {nm : ByteArray} (h : dataE d = 0) (h1 : leadN d nm < 0) : zoneK d nm = 0 ∧ zoneEr d nm = 4 := by
  unfold zoneK zoneEr; simp [h, h1]
theorem zone_is {d : Dt} {nm : ByteArray} (h : dataE d = 0) (h1 : ¬ leadN d nm < 0) : zoneK d nm = leadN d nm ∧ zoneEr d nm = 0 := by
  unfold zoneK zoneEr; simp [h, h1]
end Gno
namespace Go.Proofs.YtlngalmdidaahaaGreatDoor
open Go.RowKit Gno
theorem MaxAt.next {w W : World} (h : MaxAt w w.heap.size) (hb : Below w.heap.size w W) : MaxAt W W.heap.size := by
  have h1 := h.below hb (Nat.le_refl _)
  exact ⟨by have := h1.1; have := hb.size; omega, h1.2⟩
set_option maxRecDepth 100000 in
set_option maxHeartbeats 4000000 in
theorem zone_any (d : Dt) (nm : ByteArray) (w : World) (hD : DataAt w w.heap.size d) (hMX : MaxAt w w.heap.size) :
    Calls Tryz.prog 19 #[d.val, .string nm] w fun e w' => e = .returned (.tuple #[.int .i64 (zoneK d nm), .int .i64 (zoneEr d nm)]) ∧ Below w.heap.size w w' := by
  have CK := Lib.hid ((check_any d (w.alloc (Dobj d)) (hD.next ((Below.refl w.heap.size w).alloc (Nat.le_refl _) (Dobj d))) (hMX.next ((Below.refl w.heap.size w).alloc (Nat.le_refl _) (Dobj d)))).mono fun e w' h => (⟨h.1, (((Below.refl w.heap.size w).alloc (Nat.le_refl _) (Dobj d)).trans (h.2.mono (by simp))), (h.2.cell (p := ⟨w.heap.size, 0, none⟩) (by simp)).trans (by rw [World.cell?_alloc_at _ _ _ _ rfl]; rfl), (h.2.cell (p := ⟨w.heap.size, 1, none⟩) (by simp)).trans (by rw [World.cell?_alloc_at _ _ _ _ rfl]; rfl), (h.2.cell (p := ⟨w.heap.size, 2, none⟩) (by simp)).trans (by rw [World.cell?_alloc_at _ _ _ _ rfl]; rfl)⟩ : e = .returned (.int .i64 (dataE d)) ∧ Below w.heap.size w w' ∧ w'.cell? ⟨w.heap.size, 0, none⟩ = some (.slice d.sA d.sn d.sc) ∧ w'.cell? ⟨w.heap.size, 1, none⟩ = some (.slice d.zA d.zn d.zc) ∧ w'.cell? ⟨w.heap.size, 2, none⟩ = some (.slice d.lA d.ln d.lc)))
  have LD := Lib.hid (fun w1 (hb : Below w.heap.size w w1) => (lead_any d nm w1 (hD.next hb)).mono fun e w' h => (⟨h.1, hb.trans (h.2.mono hb.size)⟩ : e = .returned (.int .i64 (leadN d nm)) ∧ Below w.heap.size w w'))
  clear hD hMX
  unfold Dt.val at *
  by_cases h0 : dataE d = 0
  · by_cases h1 : leadN d nm < 0
    · have HX := Lib.hid (zone_none h0 h1)
      have hb0 : decide (leadN d nm < 0) = true := by simpa using h1
      rw [h0] at CK
      clear h0 h1
      go_enter Tryz.func19, Tryz.ntmps19
      go_wp2_with (first
        | (go_at_call 39; (with_reducible refine CK.out.mono ?_); rintro e w1 ⟨rfl, hb1, c0, c1, c2⟩)
        | (go_at_call 40; (with_reducible refine (LD.out _ hb1).mono ?_); rintro e w2 ⟨rfl, hb2⟩))
      go_ret2
      exact ⟨ret_ii HX.out.1.symm HX.out.2.symm, hb2⟩
    · have HX := Lib.hid (zone_is h0 h1)
      have hb0 : decide (leadN d nm < 0) = false := by simpa using h1
      rw [h0] at CK
      clear h0 h1
      go_enter Tryz.func19, Tryz.ntmps19
      go_wp2_with (first
        | (go_at_call 39; (with_reducible refine CK.out.mono ?_); rintro e w1 ⟨rfl, hb1, c0, c1, c2⟩)
        | (go_at_call 40; (with_reducible refine (LD.out _ hb1).mono ?_); rintro e w2 ⟨rfl, hb2⟩))
      go_ret2
      exact ⟨ret_ii HX.out.1.symm HX.out.2.symm, hb2⟩
  · have HX := Lib.hid (zone_bad (nm := nm) h0)
    have hb0 : (dataE d != 0) = true := by simpa using h0
    clear h0 LD
    go_enter Tryz.func19, Tryz.ntmps19
    go_wp2_with (go_at_call 39; (with_reducible refine CK.out.mono ?_); rintro e w1 ⟨rfl, hb1, c0, c1, c2⟩)
    go_ret2
    exact ⟨ret_ii HX.out.1.symm HX.out.2.symm, hb1⟩
set_option maxRecDepth 100000 in
set_option maxHeartbeats 4000000 in
theorem zoneOf_any (d : Dt) (nm : ByteArray) (w : World) (hD : DataAt w w.heap.size d) :
    Calls Tryz.prog 29 #[d.val, .string nm] w fun e w' => e = .returned (.tuple #[.int .i64 (zoneK d nm), .int .i64 (zoneEr d nm)]) ∧ Below w.heap.size w w' := by
  have CK := Lib.hid ((checkData_any d (w.alloc (Dobj d)) (hD.next ((Below.refl w.heap.size w).alloc (Nat.le_refl _) (Dobj d)))).mono fun e w' h => (⟨h.1, (((Below.refl w.heap.size w).alloc (Nat.le_refl _) (Dobj d)).trans (h.2.mono (by simp))), (h.2.cell (p := ⟨w.heap.size, 0, none⟩) (by simp)).trans (by rw [World.cell?_alloc_at _ _ _ _ rfl]; rfl), (h.2.cell (p := ⟨w.heap.size, 1, none⟩) (by simp)).trans (by rw [World.cell?_alloc_at _ _ _ _ rfl]; rfl), (h.2.cell (p := ⟨w.heap.size, 2, none⟩) (by simp)).trans (by rw [World.cell?_alloc_at _ _ _ _ rfl]; rfl)⟩ : e = .returned (.int .i64 (dataE d)) ∧ Below w.heap.size w w' ∧ w'.cell? ⟨w.heap.size, 0, none⟩ = some (.slice d.sA d.sn d.sc) ∧ w'.cell? ⟨w.heap.size, 1, none⟩ = some (.slice d.zA d.zn d.zc) ∧ w'.cell? ⟨w.heap.size, 2, none⟩ = some (.slice d.lA d.ln d.lc)))
  have LD := Lib.hid (fun w1 (hb : Below w.heap.size w w1) => (follow_any d nm w1 (hD.next hb)).mono fun e w' h => (⟨h.1, hb.trans (h.2.mono hb.size)⟩ : e = .returned (.int .i64 (leadN d nm)) ∧ Below w.heap.size w w'))
  clear hD
  unfold Dt.val at *
  by_cases h0 : dataE d = 0
  · by_cases h1 : leadN d nm < 0
    · have HX := Lib.hid (zone_none h0 h1)
      have hb0 : decide (leadN d nm < 0) = true := by simpa using h1
      rw [h0] at CK
      clear h0 h1
      go_enter Tryz.func29, Tryz.ntmps29
      go_wp2_with (first
        | (go_at_call 22; (with_reducible refine CK.out.mono ?_); rintro e w1 ⟨rfl, hb1, c0, c1, c2⟩)
        | (go_at_call 52; (with_reducible refine (LD.out _ hb1).mono ?_); rintro e w2 ⟨rfl, hb2⟩))
      go_ret2
      exact ⟨ret_ii HX.out.1.symm HX.out.2.symm, hb2⟩
    · have HX := Lib.hid (zone_is h0 h1)
      have hb0 : decide (leadN d nm < 0) = false := by simpa using h1
      rw [h0] at CK
      clear h0 h1
      go_enter Tryz.func29, Tryz.ntmps29
      go_wp2_with (first
        | (go_at_call 22; (with_reducible refine CK.out.mono ?_); rintro e w1 ⟨rfl, hb1, c0, c1, c2⟩)
        | (go_at_call 52; (with_reducible refine (LD.out _ hb1).mono ?_); rintro e w2 ⟨rfl, hb2⟩))
      go_ret2
      exact ⟨ret_ii HX.out.1.symm HX.out.2.symm, hb2⟩
  · have HX := Lib.hid (zone_bad (nm := nm) h0)
    have hb0 : (dataE d != 0) = true := by simpa using h0
    clear h0 LD
    go_enter Tryz.func29, Tryz.ntmps29
    go_wp2_with (go_at_call 22; (with_reducible refine CK.out.mono ?_); rintro e w1 ⟨rfl, hb1, c0, c1, c2⟩)
    go_ret2
    exact ⟨ret_ii HX.out.1.symm HX.out.2.symm, hb1⟩
end Go.Proofs.YtlngalmdidaahaaGreatDoor
end
/-! Plain: right data: where names and links lead; one link more. -/
section
set_option linter.unusedVariables false
set_option linter.unusedSimpArgs false
namespace Gno
open Go
/-- no two of a list are the same. -/
def Dist (l : List ByteArray) : Prop := ∀ (i j : Nat) (a b : ByteArray), i < j → l[i]? = some a → l[j]? = some b → same a b = false
theorem dist_of {l : List ByteArray} (h : dup l = false) : Dist l := fun i j a b hij ha hb => by
  cases hs : same a b
  · rfl
  · have : dup l = true := dup_yes (i := j) (m := j) (v := b) hb (Nat.le_refl _) (by
      unfold amongTo
      rw [List.any_eq_true]
      refine ⟨a, ?_, by rw [same_comm]; exact hs⟩
      exact List.mem_of_getElem? (i := i) (by rw [List.getElem?_take_of_lt hij]; exact ha))
    rw [h] at this; cases this
structure Right (d : Dt) : Prop where
  many : manyD d = false
  dist : Dist (zNames d ++ lNames d)
  noto : ∀ l ∈ d.ls, noTo d l.to = false
  lead : ∀ l ∈ d.ls, 0 ≤ leadN d l.name
theorem right_of {d : Dt} (h : dataE d = 0) : Right d := by
  have h0 : manyD d = false := by
    cases e : manyD d
    · rfl
    · unfold dataE at h; rw [if_pos e] at h; exact absurd h (by decide)
  have h1 : dE1 d = 0 := by unfold dataE at h; rwa [if_neg (by rw [h0]; simp)] at h
  have h2 : dE2 d = 0 := by
    unfold dE1 at h1; split at h1
    · exact absurd h1 (by decide)
    · exact h1
  have h3 : dE3 d = 0 := by
    unfold dE2 at h2; split at h2
    · exact absurd h2 (by decide)
    · exact h2
  have h4 : dE4 d = 0 := by
    unfold dE3 at h3; split at h3
    · exact absurd h3 (by decide)
    · exact h3
  have hd : (dup (sNames d) || dup (zNames d ++ lNames d)) = false := by
    cases e : (dup (sNames d) || dup (zNames d ++ lNames d))
    · rfl
    · unfold dE4 at h4; rw [if_pos e] at h4; exact absurd h4 (by decide)
  have h5 : dE5 d = 0 := by unfold dE4 at h4; rwa [if_neg (by rw [hd]; simp)] at h4
  have h6 : dE6 d = 0 := by
    unfold dE5 at h5; split at h5
    · rename_i q; exact absurd h5 q
    · exact h5
  have h7 : dE7 d = 0 := by
    unfold dE6 at h6; split at h6
    · exact absurd h6 (by decide)
    · exact h6
  have h8 : dE8 d = 0 := by
    unfold dE7 at h7; split at h7
    · exact absurd h7 (by decide)
    · exact h7
  have h9 : dE9 d = 0 := by
    unfold dE8 at h8; split at h8
    · exact absurd h8 (by decide)
    · exact h8
  have ht : anyI (fun _ => noTo d) (lTos d) = false := by
    cases e : anyI (fun _ => noTo d) (lTos d)
    · rfl
    · unfold dE9 at h9; rw [if_pos e] at h9; exact absurd h9 (by decide)
  have h10 : dE10 d = 0 := by unfold dE9 at h9; rwa [if_neg (by rw [ht]; simp)] at h9
  have hl : anyI (fun _ => noLead d) (lNames d) = false := by
    cases e : anyI (fun _ => noLead d) (lNames d)
    · rfl
    · unfold dE10 at h10; rw [if_pos e] at h10; exact absurd h10 (by decide)
  rw [anyI_any] at ht hl
  rw [Bool.or_eq_false_iff] at hd
  refine ⟨h0, dist_of hd.2, fun l hl' => ?_, fun l hl' => ?_⟩
  · have := List.any_eq_false.1 ht l.to (List.mem_map.2 ⟨l, hl', rfl⟩)
    simpa using this
  · have := List.any_eq_false.1 hl l.name (List.mem_map.2 ⟨l, hl', rfl⟩)
    unfold noLead at this
    simpa using this
theorem same_refl (a : ByteArray) : same a a = true := (same_iff a a).2 rfl
theorem Right.zz {d : Dt} (h : Right d) {i j : Nat} {a b : Zn} (hij : i < j) (ha : d.zs[i]? = some a) (hb : d.zs[j]? = some b) : same a.name b.name = false := by
  have hi := (List.getElem?_eq_some_iff.1 ha).1
  have hj := (List.getElem?_eq_some_iff.1 hb).1
  refine h.dist i j _ _ hij ?_ ?_
  · rw [List.getElem?_append_left (by simp [zNames]; exact hi)]; simp [zNames, ha]
  · rw [List.getElem?_append_left (by simp [zNames]; exact hj)]; simp [zNames, hb]
theorem Right.zl {d : Dt} (h : Right d) {i j : Nat} {a : Zn} {b : Lk} (ha : d.zs[i]? = some a) (hb : d.ls[j]? = some b) : same a.name b.name = false := by
  have hi := (List.getElem?_eq_some_iff.1 ha).1
  refine h.dist i (d.zs.length + j) _ _ (by omega) ?_ ?_
  · rw [List.getElem?_append_left (by simp [zNames]; exact hi)]; simp [zNames, ha]
  · rw [List.getElem?_append_right (by simp [zNames])]; simp [zNames, lNames, hb]
theorem Right.ll {d : Dt} (h : Right d) {i j : Nat} {a b : Lk} (hij : i < j) (ha : d.ls[i]? = some a) (hb : d.ls[j]? = some b) : same a.name b.name = false := by
  refine h.dist (d.zs.length + i) (d.zs.length + j) _ _ (by omega) ?_ ?_
  · rw [List.getElem?_append_right (by simp [zNames])]; simp [zNames, lNames, ha]
  · rw [List.getElem?_append_right (by simp [zNames])]; simp [zNames, lNames, hb]
theorem Right.zoneOwn {d : Dt} (h : Right d) {k : Nat} {z : Zn} (hz : d.zs[k]? = some z) : zoneN d z.name = k := by
  have := fst_at (p := isZone z.name) d.zs 0 k (fun j x hj hx => h.zz hj hx hz) ⟨z, hz, same_refl _⟩
  unfold zoneN; rw [this]; simp
theorem Right.leadZone {d : Dt} (h : Right d) {k : Nat} {z : Zn} (hz : d.zs[k]? = some z) : leadN d z.name = k := by
  unfold leadN
  rw [lead_zone (by rw [h.zoneOwn hz]; omega), h.zoneOwn hz]
theorem zone_neg {d : Dt} {s : ByteArray} (h : ∀ z ∈ d.zs, same z.name s = false) : zoneN d s < 0 := by
  have := fst_nn (isZone s) d.zs 0 (by omega)
  unfold zoneN
  rcases Int.lt_or_le (fst (isZone s) d.zs 0) 0 with q | q
  · exact q
  · obtain ⟨z, hz, hp⟩ := this.1 q
    unfold isZone at hp
    rw [h z hz] at hp; cases hp
theorem link_neg {d : Dt} {s : ByteArray} (h : ∀ z ∈ d.ls, same z.name s = false) : linkN d s < 0 := by
  have := fst_nn (isLink s) d.ls 0 (by omega)
  unfold linkN
  rcases Int.lt_or_le (fst (isLink s) d.ls 0) 0 with q | q
  · exact q
  · obtain ⟨z, hz, hp⟩ := this.1 q
    unfold isLink at hp
    rw [h z hz] at hp; cases hp
theorem Right.linkNoZone {d : Dt} (h : Right d) {i : Nat} {l : Lk} (hl : d.ls[i]? = some l) : zoneN d l.name < 0 :=
  zone_neg fun z hz => by
    obtain ⟨j, hj⟩ := List.getElem?_of_mem hz
    exact h.zl hj hl
theorem Right.linkOwn {d : Dt} (h : Right d) {i : Nat} {l : Lk} (hl : d.ls[i]? = some l) : linkN d l.name = i := by
  have := fst_at (p := isLink l.name) d.ls 0 i (fun j x hj hx => h.ll hj hx hl) ⟨l, hl, same_refl _⟩
  unfold linkN; rw [this]; simp
theorem leadT_more (d : Dt) : ∀ (f : Nat) (s : ByteArray), 0 ≤ leadT d f s → leadT d (f + 1) s = leadT d f s
  | 0, s, h => by simp [leadT] at h
  | f + 1, s, h => by
    by_cases hz : 0 ≤ zoneN d s
    · rw [lead_zone hz, lead_zone hz]
    · have hr := linkN_range d s
      by_cases hl : linkN d s < 0
      · rw [lead_none hz hl] at h; exact absurd h (by decide)
      · have hq := List.getElem?_eq_getElem (l := d.ls) (i := (linkN d s).toNat) (by omega)
        rw [lead_link hz hl hq] at h ⊢
        rw [lead_link hz hl hq]
        exact leadT_more d f _ h
theorem leadT_le (d : Dt) {f : Nat} {s : ByteArray} (h : 0 ≤ leadT d f s) : ∀ g, leadT d (f + g) s = leadT d f s
  | 0 => rfl
  | g + 1 => by
    have ih := leadT_le d h g
    rw [← Nat.add_assoc, leadT_more d (f + g) s (by rw [ih]; exact h), ih]
/-- a link leads where what it leads to leads. -/
theorem Right.leadLink {d : Dt} (h : Right d) {i : Nat} {l : Lk} (hl : d.ls[i]? = some l) : leadN d l.name = leadN d l.to ∧ 0 ≤ leadN d l.name ∧ leadN d l.name < d.zs.length := by
  have h0 := h.lead l (List.mem_of_getElem? hl)
  have e : leadN d l.name = leadT d d.ls.length l.to := by
    unfold leadN
    exact lead_link (by have := h.linkNoZone hl; omega) (by rw [h.linkOwn hl]; omega) (by rw [h.linkOwn hl]; simpa using hl)
  refine ⟨?_, h0, ?_⟩
  · rw [e] at h0 ⊢
    unfold leadN
    exact (leadT_more d _ _ h0).symm
  · exact (leadT_range d _ _).2
/-- one link more. -/
def moreD (d : Dt) (A : Option Addr) (c : Nat) (x : Lk) : Dt := { d with lA := A, ln := d.ln + 1, lc := c, ls := d.ls ++ [x] }
theorem more_zone (d : Dt) (A : Option Addr) (c : Nat) (x : Lk) (s : ByteArray) : zoneN (moreD d A c x) s = zoneN d s := rfl
theorem fst_app {α : Type} {p : α → Bool} : ∀ (l : List α) (x : α) (k : Int), 0 ≤ k → fst p (l ++ [x]) k = if 0 ≤ fst p l k then fst p l k else if p x = true then k + l.length else -1
  | [], x, k, hk => by
    simp only [List.nil_append, fst]
    by_cases h : p x = true
    · simp [h]
    · simp [h]
  | a :: t, x, k, hk => by
    show fst p (a :: (t ++ [x])) k = _
    by_cases h : p a = true
    · have e1 : ∀ l, fst p (a :: l) k = k := fun l => by show (if p a = true then k else fst p l (k + 1)) = k; rw [if_pos h]
      rw [e1, e1, if_pos hk]
    · have e1 : ∀ l, fst p (a :: l) k = fst p l (k + 1) := fun l => by show (if p a = true then k else fst p l (k + 1)) = _; rw [if_neg h]
      rw [e1, e1, fst_app t x (k + 1) (by omega)]
      have e : k + 1 + (t.length : Int) = k + ((a :: t).length : Int) := by simp; omega
      rw [e]
theorem more_link (d : Dt) (A : Option Addr) (c : Nat) (x : Lk) (s : ByteArray) : linkN (moreD d A c x) s = if 0 ≤ linkN d s then linkN d s else if same x.name s = true then (d.ls.length : Int) else -1 := by
  unfold linkN
  show fst (isLink s) (d.ls ++ [x]) 0 = _
  rw [fst_app d.ls x 0 (by omega)]
  unfold isLink
  simp
/-- what leads to a zone leads there with one link more. -/
theorem more_lead (d : Dt) (A : Option Addr) (c : Nat) (x : Lk) : ∀ (f : Nat) (s : ByteArray), 0 ≤ leadT d f s → leadT (moreD d A c x) f s = leadT d f s
  | 0, s, h => by simp [leadT] at h
  | f + 1, s, h => by
    by_cases hz : 0 ≤ zoneN d s
    · rw [lead_zone hz, lead_zone (d := moreD d A c x) (by rw [more_zone]; exact hz), more_zone]
    · have hr := linkN_range d s
      by_cases hl : linkN d s < 0
      · rw [lead_none hz hl] at h; exact absurd h (by decide)
      · have hm : linkN (moreD d A c x) s = linkN d s := by rw [more_link, if_pos (by omega)]
        have hq := List.getElem?_eq_getElem (l := d.ls) (i := (linkN d s).toNat) (by omega)
        rw [lead_link hz hl hq] at h ⊢
        rw [lead_link (d := moreD d A c x) (l := d.ls[(linkN d s).toNat]'(by omega)) (by rw [more_zone]; exact hz) (by rw [hm]; exact hl) (by rw [hm]; show (d.ls ++ [x])[(linkN d s).toNat]? = _; rw [List.getElem?_append_left (by omega)]; exact hq)]
        exact more_lead d A c x f _ h
theorem more_leadN {d : Dt} {A : Option Addr} {c : Nat} {x : Lk} {s : ByteArray} (h : 0 ≤ leadN d s) : leadN (moreD d A c x) s = leadN d s := by
  unfold leadN at h ⊢
  have e : (moreD d A c x).ls.length + 1 = d.ls.length + 1 + 1 := by show (d.ls ++ [x]).length + 1 = _; simp
  rw [e, ← more_lead d A c x _ _ h]
  rw [← more_lead d A c x _ _ h] at h
  exact leadT_more _ _ _ h
/-- a name that no zone, no link has. -/
theorem lead_absent {d : Dt} {s : ByteArray} (hz : zoneN d s < 0) (hl : linkN d s < 0) : leadN d s = -1 := lead_none (by omega) hl
/-- one link more changes nothing of the others. -/
theorem more_same {d : Dt} {A : Option Addr} {c : Nat} {x : Lk} (h : Right d) {s : ByteArray} (hs : same x.name s = false) : leadN (moreD d A c x) s = leadN d s := by
  by_cases hz : 0 ≤ zoneN d s
  · exact more_leadN (by unfold leadN; rw [lead_zone hz]; exact hz)
  · by_cases hl : 0 ≤ linkN d s
    · have hr := linkN_range d s
      obtain ⟨l, hlm, hp⟩ := (fst_nn (isLink s) d.ls 0 (by omega)).1 hl
      have : l.name = s := (same_iff _ _).1 hp
      refine more_leadN ?_
      rw [← this]
      exact h.lead l hlm
    · have a1 : zoneN d s < 0 := by omega
      have a2 : linkN d s < 0 := by omega
      have a3 : linkN (moreD d A c x) s < 0 := by rw [more_link, if_neg hl, if_neg (by rw [hs]; simp)]; omega
      rw [lead_absent a1 a2, lead_absent (d := moreD d A c x) a1 a3]
/-- and leads where it says. -/
theorem more_new {d : Dt} {A : Option Addr} {c : Nat} {x : Lk} (h : Right d) (h2 : Right (moreD d A c x)) : leadN (moreD d A c x) x.name = leadN d x.to ∧ 0 ≤ leadN d x.to := by
  have hx : (moreD d A c x).ls[d.ls.length]? = some x := by show (d.ls ++ [x])[d.ls.length]? = _; simp
  obtain ⟨h3, h4, h5⟩ := h2.leadLink hx
  have h6 : 0 ≤ leadN d x.to := by
    by_cases hz : 0 ≤ zoneN d x.to
    · unfold leadN; rw [lead_zone hz]; exact hz
    · by_cases hl : 0 ≤ linkN d x.to
      · obtain ⟨l, hlm, hp⟩ := (fst_nn (isLink x.to) d.ls 0 (by omega)).1 hl
        have : l.name = x.to := (same_iff _ _).1 hp
        rw [← this]
        exact h.lead l hlm
      · exfalso
        have hz2 : ¬ 0 ≤ zoneN (moreD d A c x) x.to := by rw [more_zone]; exact hz
        by_cases hs : same x.name x.to = true
        · -- it leads to itself
          have hnt : x.name = x.to := (same_iff _ _).1 hs
          have key : ∀ f, leadT (moreD d A c x) f x.to = -1 := by
            intro f
            induction f with
            | zero => rfl
            | succ f ih =>
              have hm : linkN (moreD d A c x) x.to = d.ls.length := by rw [more_link, if_neg hl, if_pos hs]
              rw [lead_link (l := x) hz2 (by rw [hm]; omega) (by rw [hm]; simpa using hx)]
              exact ih
          rw [h3] at h4
          unfold leadN at h4
          rw [key] at h4
          exact absurd h4 (by decide)
        · have : leadN (moreD d A c x) x.to = -1 := lead_absent (by omega) (by rw [more_link, if_neg hl, if_neg hs]; omega)
          rw [h3, this] at h4
          exact absurd h4 (by decide)
  exact ⟨by rw [h3, more_leadN h6], h6⟩
end Gno
end
