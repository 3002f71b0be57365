/- The walk of UsesGone. -/
import Derived.Deep.RegionHeld3
import Derived.Deep.QuietTactic
import Derived.BigQuiet
import Derived.Deep.CutRange
import Derived.Deep.AppendLies
import Derived.Test.YtbbbeldbhlehnaaGreatMUsesTellsRow0
import Derived.Test.YtbbbeldbhlehnaaGreatMUsesTellsRow1
import Derived.Test.YtbbbeldbhlehnaaGreatMUsesTellsRow2
import Derived.Test.YtbbbeldbhlehnaaGreatMUsesTellsRow3
import Derived.Test.YtbbbeldbhlehnaaGreatMUsesTellsRow4
import Derived.Test.YtbbbeldbhlehnaaGreatMUsesTellsRow5
import Derived.Test.YtbbbeldbhlehnaaGreatMUsesTellsRow6
import Derived.Test.YtbbbeldbhlehnaaGreatMUsesTellsRow7
import Derived.Test.YtbbbeldbhlehnaaGreatMUsesTellsRow8
import Derived.Test.YtbbbeldbhlehnaaGreatMUsesTellsRow9
import Derived.Test.YtbbbeldbhlehnaaGreatMUsesTellsRow10
import Derived.Test.YtbbbeldbhlehnaaGreatMUsesTellsRow11
import Derived.Test.YtbbbeldbhlehnaaGreatMUsesTellsRow12
import Derived.Test.YtbbbeldbhlehnaaGreatMUsesTellsRow13
import Derived.Test.YtbbbeldbhlehnaaGreatMUsesTellsRow14
import Derived.Test.YtbbbeldbhlehnaaGreatMUsesTellsRow15
import Derived.Test.YtbbbeldbhlehnaaGreatMUsesTellsRow16
import Derived.Test.YtbbbeldbhlehnaaGreatMUsesTellsRow17
import Derived.Test.YtbbbeldbhlehnaaGreatMUsesTellsRow18
import Derived.Test.YtbbbeldbhlehnaaGreatMUsesTellsRow19
import Derived.Test.YtbbbeldbhlehnaaGreatMUsesTellsRow20
import Derived.Test.YtbbbeldbhlehnaaGreatMUsesTellsRow21
import Derived.Test.YtbbbeldbhlehnaaGreatMUsesTellsRow22
import Derived.Test.YtbbbeldbhlehnaaGreatMUsesTellsRow23
import Derived.Test.YtbbbeldbhlehnaaGreatMUsesTellsRow24
import Derived.Test.YtbbbeldbhlehnaaGreatMUsesTellsRow25
import Derived.Test.YtbbbeldbhlehnaaGreatMUsesTellsRow26
import Derived.Test.YtbbbeldbhlehnaaGreatMUsesTellsRow27
import Derived.Test.YtbbbeldbhlehnaaGreatMUsesTellsRow28
import Derived.Test.YtbbbeldbhlehnaaGreatMUsesTellsRow29
import Derived.Test.YtbbbeldbhlehnaaGreatMUsesTellsRow30
import Derived.Test.YtbbbeldbhlehnaaGreatMUsesTellsRow31
import Derived.Test.YtbbbeldbhlehnaaGreatMUsesTellsRow32
import Derived.Test.YtbbbeldbhlehnaaGreatMUsesTellsRow33
import Derived.Test.YtbbbeldbhlehnaaGreatMUsesTellsRow34
import Derived.Test.YtbbbeldbhlehnaaGreatMUsesTellsRow35
import Derived.Test.YtbbbeldbhlehnaaGreatMUsesTellsRow36
import Derived.Test.YtbbbeldbhlehnaaGreatMUsesTellsRow37
import Derived.Test.YtbbbeldbhlehnaaGreatMUsesTellsRow38
import Derived.Test.YtbbbeldbhlehnaaGreatMUsesTellsRow39
import Derived.Test.YtbbbeldbhlehnaaGreatQUseTrP
import Derived.Test.YtbbbeldbhlehnaaGreatQUseY
import Derived.Test.YtbbbeldbhlehnaaGreatQChoose
import Derived.Test.YtbbbeldbhlehnaaGreatQAppL
set_option linter.unusedSimpArgs false
set_option linter.unusedVariables false
set_option linter.unusedVariables false
set_option linter.unusedSimpArgs false
namespace Go.Proofs.YtbbbeldbhlehnaaGreat
open Go.RowKit Gno
theorem uss_front {w : World} {b o : Nat} {l : List Us} (h : ∀ j v, (uss l)[j]? = some v → w.cell? ⟨b, o + j, none⟩ = some v) (k : Nat) : ∀ j v, (uss (l.take k))[j]? = some v → w.cell? ((⟨b, o, none⟩ : Addr).add j) = some v := fun j v hj => by
  rw [addP]
  refine h j v ?_
  have e : uss l = uss (l.take k) ++ uss (l.drop k) := by rw [← uss_app, List.take_append_drop]
  rw [e, List.getElem?_append_left (List.getElem?_eq_some_iff.1 hj).1]; exact hj
theorem uss_back {w : World} {b o : Nat} {l : List Us} (h : ∀ j v, (uss l)[j]? = some v → w.cell? ⟨b, o + j, none⟩ = some v) {k : Nat} (hk : k + 1 ≤ l.length) : ∀ j v, (uss (l.drop (k + 1)))[j]? = some v → w.cell? ((⟨b, o + (k + 1) * 4, none⟩ : Addr).add j) = some v := fun j v hj => by
  rw [addP, Nat.add_assoc]
  refine h _ v ?_
  have e : uss l = uss (l.take (k + 1)) ++ uss (l.drop (k + 1)) := by rw [← uss_app, List.take_append_drop]
  have hl : (uss (l.take (k + 1))).length = (k + 1) * 4 := by rw [uss_len, List.length_take]; omega
  rw [e, List.getElem?_append_right (by omega), hl, Nat.add_sub_cancel_left]; exact hj
set_option maxRecDepth 100000 in
set_option maxHeartbeats 8000000 in
theorem usesGone_bad (d : Dt) (A : Option Addr) (n cap : Nat) (l : List Us) (nm mt : ByteArray) (t i : Int) (w : World) (hD : DataAt w w.heap.size d) (hM : MaxAt w w.heap.size) (hU : UsesAt w w.heap.size A n l) (hmt : mt.size ≤ maxLen) (he : metaE d l nm t ≠ 0 ∨ zonesE d l mt t ≠ 0 ∨ n = 0) :
    Calls Tryz.prog 5 #[d.val, .slice A n cap, .string nm, .string mt, .int .i64 t, .int .i64 i] w fun e w' => e = .returned (.bool true) ∧ Below w.heap.size w w' := by
  have HX := Lib.hid (fun W (h : Below (w.heap.size + 1) (w.alloc (Dobj d)) W) => boxU hD hU h)
  have MX := Lib.hid (fun W (h : Below w.heap.size w W) => hM.next h)
  have M1 := Lib.hid (fun W (h : Below (w.heap.size + 1) (w.alloc (Dobj d)) W) => usesMeta_any d A n cap l nm t W (HX.out W h).2.1 (MX.out W (HX.out W h).1) (HX.out W h).2.2.1)
  have Z1 := Lib.hid (fun W (h : Below (w.heap.size + 1) (w.alloc (Dobj d)) W) => usesZones_any d A n cap l mt t W (HX.out W h).2.1 (MX.out W (HX.out W h).1) (HX.out W h).2.2.1 hmt)
  have UB := Lib.hid (fun W (h : Below (w.heap.size + 1) (w.alloc (Dobj d)) W) => usesBegun_any W (MX.out W (HX.out W h).1))
  have hbb : Below (w.heap.size + 1) (w.alloc (Dobj d)) (w.alloc (Dobj d)) := Below.refl _ _
  clear hD hM hU hmt
  unfold Dt.val at *
  obtain ⟨ZE, hZE⟩ : ∃ v, v = zonesE d l mt t := ⟨_, rfl⟩
  obtain ⟨ME, hME⟩ : ∃ v, v = metaE d l nm t := ⟨_, rfl⟩
  rw [← hZE] at Z1
  rw [← hME] at M1
  rw [← hZE, ← hME] at he
  clear hZE hME
  have hg : ((ME != 0) = true) ∨ ((ME != 0) = false ∧ (ZE != 0) = true) ∨ ((ME != 0) = false ∧ (ZE != 0) = false ∧ ((n : Int) == 0) = true) := by
    by_cases h1 : ME = 0
    · by_cases h2 : ZE = 0
      · have h3 : n = 0 := by
          rcases he with h | h | h
          · exact absurd h1 h
          · exact absurd h2 h
          · exact h
        exact .inr (.inr ⟨by rw [h1]; rfl, by rw [h2]; rfl, by rw [h3]; rfl⟩)
      · exact .inr (.inl ⟨by rw [h1]; rfl, by simpa using h2⟩)
    · exact .inl (by simpa using h1)
  clear he
  rcases hg with g1 | ⟨g1, g2⟩ | ⟨g1, g2, g3⟩
  all_goals
    go_enter Tryz.func5, Tryz.ntmps5
    go_wp2_with fail
    refine (M1.out _ hbb).mono ?_
    rintro e w1 ⟨rfl, h1⟩
    have H1 := Lib.hid (box_more hbb h1)
    obtain ⟨_, _, _, c0, c1, c2⟩ := HX.out _ H1.out
    clear h1 hbb
    go_wp2_with fail
    refine (Z1.out _ H1.out).mono ?_
    rintro e w2 ⟨v2, rfl, _, h2⟩
    have H2 := Lib.hid (box_more H1.out h2)
    clear h2 c0 c1 c2
    go_wp2_with fail
    refine (UB.out _ H2.out).mono ?_
    rintro e w3 ⟨rfl, h3⟩
    have H3 := Lib.hid (HX.out _ (box_more H2.out h3)).1
    clear h3
    go_wp2
    go_ret
    exact ⟨rfl, H3.out⟩
set_option maxRecDepth 100000 in
set_option maxHeartbeats 16000000 in
theorem usesGone_some (d : Dt) (A : Option Addr) (n cap : Nat) (l : List Us) (nm mt : ByteArray) (t i : Int) (w : World) (hD : DataAt w w.heap.size d) (hM : MaxAt w w.heap.size) (hU : UsesAt w w.heap.size A n l) (hnc : n ≤ cap) (hmt : mt.size ≤ maxLen) (hi : (Lit.int .i64 i).wf = true) (hm0 : metaE d l nm t = 0) (he : zonesE d l mt t = 0) (hn0 : 0 < n) :
    Calls Tryz.prog 5 #[d.val, .slice A n cap, .string nm, .string mt, .int .i64 t, .int .i64 i] w fun e w' => e = .returned (.bool true) ∧ Below w.heap.size w w' := by
  have HX := Lib.hid (fun W (h : Below (w.heap.size + 1) (w.alloc (Dobj d)) W) => boxU hD hU h)
  have MX := Lib.hid (fun W (h : Below w.heap.size w W) => hM.next h)
  have M1 := Lib.hid (fun W (h : Below (w.heap.size + 1) (w.alloc (Dobj d)) W) => usesMeta_any d A n cap l nm t W (HX.out W h).2.1 (MX.out W (HX.out W h).1) (HX.out W h).2.2.1)
  have Z1 := Lib.hid (fun W (h : Below (w.heap.size + 1) (w.alloc (Dobj d)) W) => usesZones_any d A n cap l mt t W (HX.out W h).2.1 (MX.out W (HX.out W h).1) (HX.out W h).2.2.1 hmt)
  have UB := Lib.hid (fun W (h : Below (w.heap.size + 1) (w.alloc (Dobj d)) W) => usesBegun_any W (MX.out W (HX.out W h).1))
  have hbb : Below (w.heap.size + 1) (w.alloc (Dobj d)) (w.alloc (Dobj d)) := Below.refl _ _
  have hzn : d.zs.length = d.zn := hD.2.1.1
  have hln : l.length = n := hU.1
  have hru := rightU_of (asked_zero (zones_zero he).1).1
  have hn10 : n ≤ 10 := by have := hru.few; omega
  have c1 := chooseN_bd i n (by omega)
  obtain ⟨k, hk⟩ : ∃ k : Nat, chooseN i n = (k : Int) := ⟨(chooseN i n).toNat, by omega⟩
  have hkn : k < n := by omega
  have hkI : (k : Int) < (n : Int) := by omega
  have CI : Hid (∀ w, Calls Tryz.prog 14 #[.int .i64 i, .int .i64 n] w fun e w' => e = .returned (.int .i64 k) ∧ w = w') := Lib.hid fun w => by rw [← hk]; exact choose_any i n w hi (by omega) (by omega)
  obtain ⟨b0, o0, u, hA, huB, huk, hs1, hs2, huc⟩ := uses_get hU hkn
  subst hA
  obtain ⟨M, hMM⟩ : ∃ v, v = metaT d l nm t := ⟨_, rfl⟩
  obtain ⟨Z, hZ⟩ : ∃ v, v = zonesR d l mt t := ⟨_, rfl⟩
  have hfewZ : Z.length ≤ 5 := by rw [hZ]; exact zonesR_len hzn
  rw [hm0, ← hMM] at M1
  rw [he, ← hZ] at Z1
  have HCU := Lib.hid (fun W (h : Below (w.heap.size + 1) (w.alloc (Dobj d)) W) => huc W (HX.out W h).1)
  have HSZ : Hid (∀ u ∈ l, u.zone.size ≤ maxLen ∧ u.mt.size ≤ maxLen) := Lib.hid (fun u hu => by
    obtain ⟨q, hq⟩ := List.getElem?_of_mem hu
    obtain ⟨_, _, u2, _, _, hq2, s1, s2, _⟩ := uses_get hU (i := q) (by rw [← hln]; exact (List.getElem?_eq_some_iff.1 hq).1)
    rw [hq] at hq2
    injection hq2 with hq2
    rw [hq2]; exact ⟨s1, s2⟩)
  have HU0 := Lib.hid hU
  have HLN := Lib.hid hln
  have HCUW : Hid (∀ V, Below w.heap.size w V → ∀ j v, (uss l)[j]? = some v → V.cell? ⟨b0, o0 + j, none⟩ = some v) := Lib.hid fun V h j v hj => by
    have := uss_cells (hU.next h) j v hj
    rwa [addP] at this
  have g3 : ((n : Int) == 0) = false := beq_eq_false_iff_ne.2 (by omega)
  have hgone := fun (h : ¬ (u.fr ≤ t ∧ t < u.til)) => meta_gone (nm := nm) hm0 huk h
  have hgone2 := fun (h : ¬ (u.fr ≤ t ∧ t < u.til)) => zones_gone (mt := mt) he huk h
  rw [← hMM] at hgone
  rw [← hZ] at hgone2
  have HG1 := Lib.hid hgone
  have HG2 := Lib.hid hgone2
  have M2 := Lib.hid (fun A' n' cap' m W (h : Below (w.heap.size + 1) (w.alloc (Dobj d)) W) (hm : UsesAt W W.heap.size A' n' m) => usesMeta_any d A' n' cap' m nm t W (HX.out W h).2.1 (MX.out W (HX.out W h).1) hm)
  have Z2 := Lib.hid (fun A' n' cap' m W (h : Below (w.heap.size + 1) (w.alloc (Dobj d)) W) (hm : UsesAt W W.heap.size A' n' m) => usesZones_any d A' n' cap' m mt t W (HX.out W h).2.1 (MX.out W (HX.out W h).1) hm hmt)
  clear hD hM hU hmt hzn hln hru hk hm0 he hMM hZ hgone hgone2 c1 hn0 huk huc hs1 hs2 huB
  unfold Dt.val at Z1 M1 M2 Z2 ⊢
  go_enter Tryz.func5, Tryz.ntmps5
  go_wp2_with fail
  refine (M1.out _ hbb).mono ?_
  rintro e w1 ⟨rfl, h1⟩
  have H1 := Lib.hid (box_more hbb h1)
  obtain ⟨_, _, _, c0, c1, c2⟩ := HX.out _ H1.out
  clear h1 hbb
  go_wp2_with fail
  refine (Z1.out _ H1.out).mono ?_
  rintro e w2 ⟨v2, rfl, hz2, h2⟩
  have H2 := Lib.hid (box_more H1.out h2)
  have HZ2 := Lib.hid hz2
  obtain ⟨_, _, _, d0, d1, d2⟩ := HX.out _ H2.out
  obtain ⟨u0, u1, u2, u3⟩ := HCU.out _ H2.out
  clear h2 hz2 c0 c1 c2 H1
  go_wp2_with fail
  refine (CI.out _).mono ?_
  rintro e w3 ⟨rfl, rfl⟩
  by_cases hh : u.fr ≤ t ∧ t < u.til
  · have p1 : decide (u.fr ≤ t) = true := decide_eq_true hh.1
    have p2 : decide (t < u.til) = true := decide_eq_true hh.2
    clear hh
    go_wp2_with fail
    refine (UB.out _ H2.out).mono ?_
    rintro e w4 ⟨rfl, h4⟩
    have HF := Lib.hid (HX.out _ (box_more H2.out h4)).1
    clear h4
    go_wp2
    go_ret
    exact ⟨rfl, HF.out⟩
  · have G1 := Lib.hid (HG1.out hh)
    have G2 := Lib.hid (HG2.out hh)
    have hcase : decide (u.fr ≤ t) = false ∨ (decide (u.fr ≤ t) = true ∧ decide (t < u.til) = false) := by
      by_cases h1 : u.fr ≤ t
      · exact .inr ⟨decide_eq_true h1, decide_eq_false (fun h2 => hh ⟨h1, h2⟩)⟩
      · exact .inl (decide_eq_false h1)
    clear hh HG1 HG2 CI
    have HCUS : Hid (∀ V, Below w2.heap.size w2 V → ∀ j v, (uss l)[j]? = some v → V.cell? ⟨b0, o0 + j, none⟩ = some v) := Lib.hid fun V h => HCUW.out V (HX.out _ (box_more H2.out h)).1
    rcases hcase with p1 | ⟨p1, p2⟩ <;> (
    go_upto_region 8 with fail
    go_cut [18] from 72 to 81 (fun sa wx => ∃ A' cap', sa = .slice A' (n - 1) cap' ∧ Hid (Below w2.heap.size w2 wx) ∧ Hid (UsesAt wx wx.heap.size A' (n - 1) (l.take k ++ l.drop (k + 1))))
    case first =>
      clear d0 d1 d2 u0 u1 u2 u3
      have i0 : (0 : Int) ≤ (k : Int) := Int.natCast_nonneg _
      have i1 : (k : Int) ≤ (n : Int) := by omega
      have i2 : (k : Int) ≤ (cap : Int) := by omega
      have i3 : (n : Int) ≤ (cap : Int) := by omega
      have i4 : IntKind.i64.wrap ((k : Int) + 1) = (k : Int) + 1 := by rw [IntKind.wrap_i64]; omega
      have i5 : (k : Int) + 1 ≤ (n : Int) := by omega
      have i6 : (0 : Int) ≤ (k : Int) + 1 := by omega
      obtain ⟨a8, h8, hc8⟩ : ∃ a8 : Addr, (cap = k + 1 → a8 = ⟨b0, o0, none⟩) ∧ (¬ cap = k + 1 → a8 = ⟨b0, o0 + (k + 1) * 4, none⟩) ∧ ∀ V, Below w2.heap.size w2 V → ∀ j v, (uss (l.drop (k + 1)))[j]? = some v → V.cell? (a8.add j) = some v := by
        by_cases hq : cap = k + 1
        · refine ⟨_, fun _ => rfl, fun h => absurd hq h, fun V _ j v hj => ?_⟩
          rw [List.drop_eq_nil_of_le (by rw [HLN.out]; omega)] at hj
          cases j <;> exact absurd hj (by simp [uss])
        · exact ⟨_, fun h => absurd h hq, fun _ => rfl, fun V h => uss_back (HCUS.out V h) (by rw [HLN.out]; omega)⟩
      have HC8 := Lib.hid hc8.2
      have H8 := Lib.hid (And.intro h8 hc8.1)
      clear hc8 h8
      refine wp_region_held_drew (S := fun _ => True) (by kernel_rfl) ?_ (fun hHeld => ?_)
      · trivial
      refine wpAnyH_take (i := 1) (oi := _) (v := ?_) rfl (by kernel_rfl) (by kernel_rfl) (by kernel_rfl) (fun _ _ _ h => h) (Or.inl ⟨by rfl, ?_⟩) (by assumption) ?_
      rotate_left
      · intro w hSw; (try dsimp only at hSw); (go_simp <;> with_reducible rfl)
      simp only [List.getElem_toArray, List.getElem_cons_zero, List.getElem_cons_succ, Act.put, List.setIfInBounds_toArray, List.set_cons_zero, List.set_cons_succ]
      refine wpAnyH_take (i := 2) (oi := _) (v := ?_) rfl (by kernel_rfl) (by kernel_rfl) (by kernel_rfl) (fun _ _ _ h => h) (Or.inl ⟨by rfl, ?_⟩) (by assumption) ?_
      rotate_left
      · intro w hSw; (try dsimp only at hSw); (go_simp <;> with_reducible rfl)
      simp only [List.getElem_toArray, List.getElem_cons_zero, List.getElem_cons_succ, Act.put, List.setIfInBounds_toArray, List.set_cons_zero, List.set_cons_succ]
      refine wpAnyH_take (i := 3) (oi := _) (v := ?_) rfl (by kernel_rfl) (by kernel_rfl) (by kernel_rfl) (fun _ _ _ h => h) (Or.inl ⟨by rfl, ?_⟩) (by assumption) ?_
      rotate_left
      · intro w hSw; (try dsimp only at hSw); (go_simp <;> with_reducible rfl)
      simp only [List.getElem_toArray, List.getElem_cons_zero, List.getElem_cons_succ, Act.put, List.setIfInBounds_toArray, List.set_cons_zero, List.set_cons_succ]
      refine wpAnyH_take (i := 5) (oi := _) (v := ?_) rfl (by kernel_rfl) (by kernel_rfl) (by kernel_rfl) (fun _ _ _ h => h) (Or.inl ⟨by rfl, ?_⟩) (by assumption) ?_
      rotate_left
      · intro w hSw; (try dsimp only at hSw); (go_simp <;> with_reducible rfl)
      simp only [List.getElem_toArray, List.getElem_cons_zero, List.getElem_cons_succ, Act.put, List.setIfInBounds_toArray, List.set_cons_zero, List.set_cons_succ]
      refine wpAnyH_take (i := 6) (oi := _) (v := ?_) rfl (by kernel_rfl) (by kernel_rfl) (by kernel_rfl) (fun _ _ _ h => h) (Or.inl ⟨by rfl, ?_⟩) (by assumption) ?_
      rotate_left
      · intro w hSw; (try dsimp only at hSw); (go_simp <;> with_reducible rfl)
      simp only [List.getElem_toArray, List.getElem_cons_zero, List.getElem_cons_succ, Act.put, List.setIfInBounds_toArray, List.set_cons_zero, List.set_cons_succ]
      refine wpAnyH_take (i := 7) (oi := _) (v := ?_) rfl (by kernel_rfl) (by kernel_rfl) (by kernel_rfl) (fun _ _ _ h => h) (Or.inl ⟨by rfl, ?_⟩) (by assumption) ?_
      rotate_left
      · intro w hSw; (try dsimp only at hSw); (go_simp <;> with_reducible rfl)
      simp only [List.getElem_toArray, List.getElem_cons_zero, List.getElem_cons_succ, Act.put, List.setIfInBounds_toArray, List.set_cons_zero, List.set_cons_succ]
      refine wpAnyH_take (i := 8) (oi := _) (v := .slice (some a8) (n - (k + 1)) (cap - (k + 1))) rfl (by kernel_rfl) (by kernel_rfl) (by kernel_rfl) (fun _ _ _ h => h) (Or.inl ⟨by rfl, ?_⟩) (by assumption) ?_
      · intro w hSw; (try dsimp only at hSw); go_simp
        by_cases hq : cap = k + 1
        · simp [hq, H8.out.1 hq]
        · simp [hq, H8.out.2 hq]
      simp only [List.getElem_toArray, List.getElem_cons_zero, List.getElem_cons_succ, Act.put, List.setIfInBounds_toArray, List.set_cons_zero, List.set_cons_succ]
      have hD : Below w2.heap.size w2 w2.drew := (Below.refl _ _).drew
      have hAl : Below w2.heap.size w2 (w2.drew.alloc (.cells #[] 43)) := hD.alloc hD.size _
      have HAl := Lib.hid hAl
      have HOA : Hid ((w2.drew.alloc (.cells #[] 43)).ownsRow w2.heap.size 43 4 (.slice (some ⟨w2.heap.size, 0, none⟩) 0 0) 0 []) := Lib.hid ⟨rfl, .inr ⟨w2.heap.size, 0, _, rfl, Nat.le_refl _, World.alloc_heap_new w2.drew _, Nat.le_refl _, by unfold maxLen; omega, rfl, rfl⟩⟩
      clear hD hAl
      refine wpAnyH_ready (rs := [0]) (by kernel_rfl) (by simp) ?_
      refine (AllReadyH.cons (o := _) rfl (fun K hK => ?_) AllReadyH.nil)
      simp only [List.getElem_toArray, List.getElem_cons_zero, List.getElem_cons_succ]
      go_simp
      refine hK.out _ _ trivial (fun hHeld => ?_)
      clear hK K
      try simp only [List.getElem_toArray, List.getElem_cons_zero, List.getElem_cons_succ, Act.put, List.setIfInBounds_toArray, List.set_cons_zero, List.set_cons_succ]
      refine wpAnyH_ready (rs := [4]) (by kernel_rfl) (by simp) ?_
      refine (AllReadyH.cons (o := _) rfl (fun K hK => ?_) AllReadyH.nil)
      simp only [List.getElem_toArray, List.getElem_cons_zero, List.getElem_cons_succ]
      rw [if_pos (by rfl)]
      refine wp_app _ _ _ 27 rfl w2.heap.size 43 (.agg #[.string ⟨#[]⟩, .int .i64 0, .int .i64 0, .string ⟨#[]⟩]) 4 48 Tryz.underlying27 infoUse rfl (by decide) _ 0 [] rfl HOA.out (some ⟨b0, o0, none⟩) k cap (uss (l.take k)) rfl (fun h => by cases h) (by rw [uss_len, List.length_take, HLN.out]; omega) (fun ad hA => by obtain rfl := Option.some.inj hA; exact uss_front (HCUS.out _ HAl.out) k) (uss_one _) (by unfold maxLen; omega) (by omega) HAl.out.size ?_
      intro v1 w3 hown1 hg1 hn1
      have HB3 : Hid (Below w2.heap.size w2 w3) := Lib.hid (HAl.out.grown hg1 HAl.out.size (fun k hk => (HOA.out.lt k hk).1))
      rw [Nat.zero_add, List.nil_append] at hown1
      have HO1 := Lib.hid hown1
      clear hown1 hg1 hn1
      refine hK.out _ _ trivial (fun hHeld => ?_)
      clear hK K
      try simp only [List.getElem_toArray, List.getElem_cons_zero, List.getElem_cons_succ, Act.put, List.setIfInBounds_toArray, List.set_cons_zero, List.set_cons_succ]
      refine wpAnyH_ready (rs := [9]) (by kernel_rfl) (by simp) ?_
      refine (AllReadyH.cons (o := _) rfl (fun K hK => ?_) AllReadyH.nil)
      simp only [List.getElem_toArray, List.getElem_cons_zero, List.getElem_cons_succ]
      rw [if_pos (by rfl)]
      refine wp_app _ _ _ 27 rfl w2.heap.size 43 (.agg #[.string ⟨#[]⟩, .int .i64 0, .int .i64 0, .string ⟨#[]⟩]) 4 48 Tryz.underlying27 infoUse rfl (by decide) _ k (uss (l.take k)) rfl HO1.out (some a8) (n - (k + 1)) (cap - (k + 1)) (uss (l.drop (k + 1))) (by rfl) (fun h => by cases h) (by rw [uss_len, List.length_drop, HLN.out]) (fun ad hA => by obtain rfl := Option.some.inj hA; exact HC8.out _ HB3.out) (uss_one _) (by unfold maxLen; omega) (by omega) HB3.out.size ?_
      intro v2 w4 hown2 hg2 hn2
      have HB4 : Hid (Below w2.heap.size w2 w4) := Lib.hid (HB3.out.grown hg2 HB3.out.size (fun k hk => (HO1.out.lt k hk).1))
      have HU4 : ∃ A' cap', v2 = .slice A' (n - 1) cap' ∧ UsesAt w4 w4.heap.size A' (n - 1) (l.take k ++ l.drop (k + 1)) := by
        rw [← uss_app, show k + (n - (k + 1)) = n - 1 by omega] at hown2
        exact uses_own hown2 (by unfold maxLen; omega) (fun u hu => HSZ.out u ((gone_sub l k).subset hu))
      clear hown2 hg2 hn2
      refine hK.out _ _ trivial (fun hHeld => ?_)
      clear hK K
      try simp only [List.getElem_toArray, List.getElem_cons_zero, List.getElem_cons_succ, Act.put, List.setIfInBounds_toArray, List.set_cons_zero, List.set_cons_succ]
      refine wpAnyH_take (i := 10) (oi := _) (v := ?_) rfl (by kernel_rfl) (by kernel_rfl) (by kernel_rfl) (fun _ _ _ h => h) (Or.inl ⟨by rfl, ?_⟩) (by assumption) ?_
      rotate_left
      · intro w hSw; (try dsimp only at hSw); (go_simp <;> with_reducible rfl)
      simp only [List.getElem_toArray, List.getElem_cons_zero, List.getElem_cons_succ, Act.put, List.setIfInBounds_toArray, List.set_cons_zero, List.set_cons_succ]
      refine wpAnyH_done (by kernel_rfl) ?_ _
      obtain ⟨A', cap', rfl, hU4⟩ := HU4
      try go_wp2_with fail
      go_meet
      exact ⟨A', cap', rfl, HB4, Lib.hid hU4⟩
    case rest =>
      obtain ⟨A', cap', rfl, hbA, hUA⟩ := hcut
      obtain ⟨vA, hvA⟩ : ∃ v : World, v = wc := ⟨_, rfl⟩
      rw [← hvA] at hbA hUA
      rw [← hvA]
      have HBA := Lib.hid (box_more H2.out hbA.out)
      clear hvA d0 d1 d2 u0 u1 u2 u3
      have M3 := Lib.hid (M2.out A' (n - 1) cap' (l.take k ++ l.drop (k + 1)) vA HBA.out hUA.out)
      rw [G1.out.1, G1.out.2] at M3
      obtain ⟨_, _, _, d0, d1, d2⟩ := HX.out _ HBA.out
      go_wp2_with fail
      refine M3.out.mono ?_
      rintro e w5 ⟨rfl, h5⟩
      have HB5 := Lib.hid (box_more HBA.out h5)
      have HBr5 := Lib.hid (hbA.out.trans (h5.mono hbA.out.size))
      have Z3 := Lib.hid (Z2.out A' (n - 1) cap' (l.take k ++ l.drop (k + 1)) w5 HB5.out (hUA.out.next h5))
      rw [G2.out.1, G2.out.2] at Z3
      clear h5 d0 d1 d2 M3 hbA hUA
      obtain ⟨_, _, _, d0, d1, d2⟩ := HX.out _ HB5.out
      go_wp2_with fail
      refine Z3.out.mono ?_
      rintro e w6 ⟨v6, rfl, hz6, h6⟩
      have HB6 := Lib.hid (box_more HB5.out h6)
      have HBr6 := Lib.hid (HBr5.out.trans (h6.mono HBr5.out.size))
      have HZ6 := Lib.hid hz6
      clear h6 hz6 d0 d1 d2 Z3
      go_wp2_with fail
      refine (UB.out _ HB6.out).mono ?_
      rintro e w7 ⟨rfl, h7⟩
      have HB7 := Lib.hid (box_more HB6.out h7)
      have HBr7 := Lib.hid (HBr6.out.trans (h7.mono HBr6.out.size))
      have ST := Lib.hid (sameTexts_any v2 v6 Z.length _ _ Z w7 (own_belowU HZ2.out HBr7.out (Nat.le_refl _)) (own_belowU HZ6.out h7 (Nat.le_refl _)) (by omega))
      have hs : (M.toList == M.toList) = true := by simp
      clear h7
      go_wp2_with fail
      refine ST.out.mono ?_
      rintro e w8 ⟨rfl, h8⟩
      have HF := Lib.hid (HX.out _ (box_more HB7.out h8)).1
      clear h8
      go_wp2
      go_ret
      exact ⟨rfl, HF.out⟩)
theorem usesGone_walk (d : Dt) (A : Option Addr) (n cap : Nat) (l : List Us) (nm mt : ByteArray) (t i : Int) (w : World) (hD : DataAt w w.heap.size d) (hM : MaxAt w w.heap.size) (hU : UsesAt w w.heap.size A n l) (hnc : n ≤ cap) (hmt : mt.size ≤ maxLen) (hi : (Lit.int .i64 i).wf = true) :
    Calls Tryz.prog 5 #[d.val, .slice A n cap, .string nm, .string mt, .int .i64 t, .int .i64 i] w fun e w' => e = .returned (.bool true) ∧ Below w.heap.size w w' := by
  by_cases h1 : metaE d l nm t = 0
  · by_cases h2 : zonesE d l mt t = 0
    · by_cases h3 : n = 0
      · exact usesGone_bad d A n cap l nm mt t i w hD hM hU hmt (.inr (.inr h3))
      · exact usesGone_some d A n cap l nm mt t i w hD hM hU hnc hmt hi h1 h2 (by omega)
    · exact usesGone_bad d A n cap l nm mt t i w hD hM hU hmt (.inr (.inl h2))
  · exact usesGone_bad d A n cap l nm mt t i w hD hM hU hmt (.inl h1)
end Go.Proofs.YtbbbeldbhlehnaaGreat
