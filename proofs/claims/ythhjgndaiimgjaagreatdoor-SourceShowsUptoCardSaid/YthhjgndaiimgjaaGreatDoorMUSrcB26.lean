/- Parts of a proof, laid together. -/
import Derived.Deep.CutRange
import Derived.Test.YthhjgndaiimgjaaGreatDoorMUSrcB9
import Derived.Test.YthhjgndaiimgjaaGreatDoorMUSrcB25
set_option linter.unusedSimpArgs false
set_option linter.unusedVariables false
/-! The reference's SameData, at data that are the same. -/
section
set_option maxRecDepth 100000
set_option linter.unusedVariables false
set_option linter.unusedSimpArgs false
namespace Go.Proofs.YthhjgndaiimgjaaGreatDoor
open Go.RowKit Gno
theorem sameSt_get {d d' : Dt} {w : World} (hD : DataAt w w.heap.size d) (hD' : DataAt w w.heap.size d') (hS : SameD d d') {k : Nat} (hk : k < d.sn) :
    ∃ b o b' o' nm A m cp A' cp', d.sA = some ⟨b, o, none⟩ ∧ d'.sA = some ⟨b', o', none⟩ ∧ m ≤ maxLen ∧ (∀ W, Below w.heap.size w W → W.cell? ⟨b, o + k * 2, none⟩ = some (.string nm) ∧ W.cell? ⟨b, o + k * 2 + 1, none⟩ = some (.slice A m cp) ∧ W.cell? ⟨b', o' + k * 2, none⟩ = some (.string nm) ∧ W.cell? ⟨b', o' + k * 2 + 1, none⟩ = some (.slice A' m cp')) ∧
      ∀ i, i < m → ∃ f g f' g' r, A = some ⟨f, g, none⟩ ∧ A' = some ⟨f', g', none⟩ ∧ ∀ W, Below w.heap.size w W → RuleAt W f (g + i * 9) r ∧ RuleAt W f' (g' + i * 9) r := by
  obtain ⟨b, o, s, hA, _, hs, _, hc⟩ := sets_get hD.1 hk
  obtain ⟨b', o', s', hA', _, hs', _, hc'⟩ := sets_get hD'.1 (by rw [hS.sn]; exact hk)
  obtain ⟨q1, q2, q3⟩ := hS.ss k s s' hs hs'
  have h0 := (hc w (Below.refl _ _)).2
  have h0' := (hc' w (Below.refl _ _)).2
  refine ⟨b, o, b', o', s.name, s.A, s.n, s.cap, s'.A, s'.cap, hA, hA', h0.2.1, fun W hW => ?_, fun i hi => ?_⟩
  · obtain ⟨⟨k0, k1⟩, _⟩ := hc W hW
    obtain ⟨⟨k2, k3⟩, _⟩ := hc' W hW
    rw [q1] at k2
    rw [q2] at k3
    exact ⟨k0, k1, k2, k3⟩
  · obtain ⟨f, g, r, e1, _, hr, _, hx⟩ := RulesAt.get h0 hi
    obtain ⟨f', g', r', e1', _, hr', _, hx'⟩ := RulesAt.get h0' (by rw [q2]; exact hi)
    rw [q3, hr] at hr'
    obtain rfl := Option.some.inj hr'
    exact ⟨f, g, f', g', r, e1, e1', fun W hW => ⟨hx W hW, hx' W hW⟩⟩
theorem sameZn_get {d d' : Dt} {w : World} (hD : DataAt w w.heap.size d) (hD' : DataAt w w.heap.size d') (hS : SameD d d') {k : Nat} (hk : k < d.zn) :
    ∃ b o b' o' nm A m cp A' cp', d.zA = some ⟨b, o, none⟩ ∧ d'.zA = some ⟨b', o', none⟩ ∧ m ≤ maxLen ∧ (∀ W, Below w.heap.size w W → W.cell? ⟨b, o + k * 2, none⟩ = some (.string nm) ∧ W.cell? ⟨b, o + k * 2 + 1, none⟩ = some (.slice A m cp) ∧ W.cell? ⟨b', o' + k * 2, none⟩ = some (.string nm) ∧ W.cell? ⟨b', o' + k * 2 + 1, none⟩ = some (.slice A' m cp')) ∧
      ∀ i, i < m → ∃ f g f' g' r, A = some ⟨f, g, none⟩ ∧ A' = some ⟨f', g', none⟩ ∧ ∀ W, Below w.heap.size w W → ErAt W f (g + i * 5) r ∧ ErAt W f' (g' + i * 5) r := by
  obtain ⟨b, o, s, hA, _, hs, _, hc⟩ := zones_get hD.2.1 hk
  obtain ⟨b', o', s', hA', _, hs', _, hc'⟩ := zones_get hD'.2.1 (by rw [hS.zn]; exact hk)
  obtain ⟨q1, q2, q3⟩ := hS.zs k s s' hs hs'
  have h0 := (hc w (Below.refl _ _)).2
  have h0' := (hc' w (Below.refl _ _)).2
  refine ⟨b, o, b', o', s.name, s.A, s.n, s.cap, s'.A, s'.cap, hA, hA', h0.2.1, fun W hW => ?_, fun i hi => ?_⟩
  · obtain ⟨⟨k0, k1⟩, _⟩ := hc W hW
    obtain ⟨⟨k2, k3⟩, _⟩ := hc' W hW
    rw [q1] at k2
    rw [q2] at k3
    exact ⟨k0, k1, k2, k3⟩
  · obtain ⟨f, g, r, e1, _, hr, _, hx⟩ := eras_get h0 hi
    obtain ⟨f', g', r', e1', _, hr', _, hx'⟩ := eras_get h0' (by rw [q2]; exact hi)
    rw [q3, hr] at hr'
    obtain rfl := Option.some.inj hr'
    exact ⟨f, g, f', g', r, e1, e1', fun W hW => ⟨hx W hW, hx' W hW⟩⟩
theorem sameLk_get {d d' : Dt} {w : World} (hD : DataAt w w.heap.size d) (hD' : DataAt w w.heap.size d') (hS : SameD d d') {k : Nat} (hk : k < d.ln) :
    ∃ b o b' o' n1 n2, d.lA = some ⟨b, o, none⟩ ∧ d'.lA = some ⟨b', o', none⟩ ∧ ∀ W, Below w.heap.size w W → W.cell? ⟨b, o + k * 2, none⟩ = some (.string n1) ∧ W.cell? ⟨b, o + k * 2 + 1, none⟩ = some (.string n2) ∧ W.cell? ⟨b', o' + k * 2, none⟩ = some (.string n1) ∧ W.cell? ⟨b', o' + k * 2 + 1, none⟩ = some (.string n2) := by
  obtain ⟨b, o, s, hA, _, hs, _, _, hc⟩ := links_get hD.2.2.1 hk
  obtain ⟨b', o', s', hA', _, hs', _, _, hc'⟩ := links_get hD'.2.2.1 (by rw [hS.ln]; exact hk)
  rw [hS.ls, hs] at hs'
  obtain rfl := Option.some.inj hs'
  exact ⟨b, o, b', o', s.name, s.to, hA, hA', fun W hW => ⟨(hc W hW).1, (hc W hW).2, (hc' W hW).1, (hc' W hW).2⟩⟩
/-- the box of data. -/
def Dobx (d : Dt) : Obj := .cells #[.slice d.sA d.sn d.sc, .slice d.zA d.zn d.zc, .slice d.lA d.ln d.lc] 26
set_option maxHeartbeats 8000000 in
theorem sameData_any (d d' : Dt) (w : World) (hD : DataAt w w.heap.size d) (hD' : DataAt w w.heap.size d') (hS : SameD d d') :
    Calls Tryz.prog 10 #[d.val, d'.val] w fun e w' => e = .returned (.bool true) ∧ Below w.heap.size w w' := by
  have GS := Lib.hid (fun k (h : k < d.sn) => sameSt_get hD hD' hS h)
  have GZ := Lib.hid (fun k (h : k < d.zn) => sameZn_get hD hD' hS h)
  have GL := Lib.hid (fun k (h : k < d.ln) => sameLk_get hD hD' hS h)
  have hs0 : d.sn ≤ 9223372036854775807 := hD.1.2.1
  have hz0 : d.zn ≤ 9223372036854775807 := hD.2.1.2.1
  have hl0 : d.ln ≤ 9223372036854775807 := hD.2.2.1.2.1
  have hse : d'.sn = d.sn := hS.sn
  have hze : d'.zn = d.zn := hS.zn
  have hle : d'.ln = d.ln := hS.ln
  have hx : ∀ W, Below (w.heap.size + 2) ((w.alloc (Dobx d)).alloc (Dobx d')) W → Below w.heap.size w W ∧ W.cell? ⟨w.heap.size, 0, none⟩ = some (.slice d.sA d.sn d.sc) ∧ W.cell? ⟨w.heap.size, 1, none⟩ = some (.slice d.zA d.zn d.zc) ∧ W.cell? ⟨w.heap.size, 2, none⟩ = some (.slice d.lA d.ln d.lc) ∧ W.cell? ⟨w.heap.size + 1, 0, none⟩ = some (.slice d'.sA d.sn d'.sc) ∧ W.cell? ⟨w.heap.size + 1, 1, none⟩ = some (.slice d'.zA d.zn d'.zc) ∧ W.cell? ⟨w.heap.size + 1, 2, none⟩ = some (.slice d'.lA d.ln d'.lc) := fun W h => by
    have h1 : Below w.heap.size w ((w.alloc (Dobx d)).alloc (Dobx d')) := ((Below.refl _ _).alloc (Nat.le_refl _) _).alloc (by simp) _
    have k1 := (h.block w.heap.size (by omega)).trans (push_past (w.alloc (Dobx d)) (Dobx d') _ (by simp))
    have k2 := (h.block (w.heap.size + 1) (by omega)).trans (push_at (w.alloc (Dobx d)) (Dobx d') _ (by simp))
    rw [push_at w (Dobx d) _ (by simp)] at k1
    unfold Dobx at k1 k2
    rw [← hse, ← hze, ← hle]
    have k2' := k2
    refine ⟨h1.trans (h.mono (by omega)), ?_, ?_, ?_, cell_of k2 rfl, cell_of k2 rfl, cell_of k2 rfl⟩ <;> (rw [hse, hze, hle] at *; first | exact cell_of k1 rfl)
  have HX := Lib.hid hx
  obtain ⟨sA', zA', lA', q1, q2, q3⟩ : ∃ a b c, a = d'.sA ∧ b = d'.zA ∧ c = d'.lA := ⟨_, _, _, rfl, rfl, rfl⟩
  clear hD hD' hS hx q1 q2 q3
  unfold Dobx at HX
  unfold Dt.val
  rw [hse, hze, hle]
  have hb0 : Below (w.heap.size + 2) ((w.alloc (.cells #[.slice d.sA d.sn d.sc, .slice d.zA d.zn d.zc, .slice d.lA d.ln d.lc] 26)).alloc (.cells #[.slice d'.sA d'.sn d'.sc, .slice d'.zA d'.zn d'.zc, .slice d'.lA d'.ln d'.lc] 26)) ((w.alloc (.cells #[.slice d.sA d.sn d.sc, .slice d.zA d.zn d.zc, .slice d.lA d.ln d.lc] 26)).alloc (.cells #[.slice d'.sA d'.sn d'.sc, .slice d'.zA d'.zn d'.zc, .slice d'.lA d'.ln d'.lc] 26)) := Below.refl _ _
  rw [hse, hze, hle] at hb0 HX
  obtain ⟨W0, hW0⟩ : ∃ W0 : World, W0 = ((w.alloc (.cells #[.slice d.sA d.sn d.sc, .slice d.zA d.zn d.zc, .slice d.lA d.ln d.lc] 26)).alloc (.cells #[.slice d'.sA d.sn d'.sc, .slice d'.zA d.zn d'.zc, .slice d'.lA d.ln d'.lc] 26)) := ⟨_, rfl⟩
  rw [← hW0] at hb0 HX
  clear hse hze hle
  go_enter Tryz.func10, Tryz.ntmps10
  have g1 : ((d.sn : Int) != (d.sn : Int)) = false := by simp
  have g2 : ((d.zn : Int) != (d.zn : Int)) = false := by simp
  have g3 : ((d.ln : Int) != (d.ln : Int)) = false := by simp
  go_upto_region 1 with fail
  rw [← hW0]
  clear hW0
  obtain ⟨hbw, x0, x1, x2, y0, y1, y2⟩ := HX.out _ hb0
  have HBS := Lib.hid hb0
  clear hbw hb0
  go_wp2_with fail
  clear x0 x1 x2 y0 y1 y2
  go_loopw [5] (fun b5 wr => ∃ k : Nat, k ≤ d.sn ∧ b5 = .int .i64 k ∧ Hid (Below (w.heap.size + 2) W0 wr)) (fun b5 _ => d.sn - (intOf b5).toNat)
  case atStart => exact ⟨0, Nat.zero_le _, rfl, HBS⟩
  case round =>
    clear HBS
    obtain ⟨k, hk, rfl, hb⟩ := hrel
    obtain ⟨hbw, x0, x1, x2, y0, y1, y2⟩ := HX.out _ hb.out
    by_cases hlt : k < d.sn
    · obtain ⟨b, o, b', o', nm, A, m, cp, A', cp', hA, hA', hml, hcell, hin⟩ := GS.out k hlt
      have HC := Lib.hid hcell
      have HIN := Lib.hid hin
      have hml : m ≤ 9223372036854775807 := hml
      obtain ⟨e0, e1, e2, e3⟩ := hcell _ hbw
      rw [hA] at x0
      rw [hA'] at y0
      have hs : (nm.toList == nm.toList) = true := by simp
      have hsn : (nm.toList != nm.toList) = false := by simp
      have hmm : ((m : Int) != (m : Int)) = false := by simp
      clear hcell hin hbw
      go_wp2_with fail
      go_quiet (fail)
      have HB2 := Lib.hid (below_drewN hb.out nq)
      clear hb e0 e1 e2 e3 x0 x1 x2 y0 y1 y2
      go_wp2_with fail
      go_loopw [6] (fun b6 wr => ∃ i : Nat, i ≤ m ∧ b6 = .int .i64 i ∧ Hid (Below (w.heap.size + 2) W0 wr)) (fun b6 _ => m - (intOf b6).toNat)
      case atStart => exact ⟨0, Nat.zero_le _, rfl, HB2⟩
      case round =>
        clear HB2
        obtain ⟨i, hi, rfl, hb⟩ := hrel
        obtain ⟨hbw, x0, x1, x2, y0, y1, y2⟩ := HX.out _ hb.out
        rw [hA] at x0
        rw [hA'] at y0
        obtain ⟨e0, e1, e2, e3⟩ := HC.out _ hbw
        by_cases hit : i < m
        · obtain ⟨f, g, f', g', r, rfl, rfl, hr⟩ := HIN.out i hit
          obtain ⟨⟨k0, k1, k2, k3, k4, k5, k6, k7, k8⟩, ⟨j0, j1, j2, j3, j4, j5, j6, j7, j8⟩⟩ := hr _ hbw
          clear hr hbw
          have hle : (r.le.toList == r.le.toList) = true := by simp
          go_wp2_with fail
          go_quiet (fail)
          have HB3 := Lib.hid (below_drewN hb.out nq)
          clear hb e0 e1 e2 e3 x0 x1 x2 y0 y1 y2 k0 j0 k1 j1 k2 j2 k3 j3 k4 j4 k5 j5 k6 j6 k7 j7 k8 j8
          go_wp2_with fail
          go_roundw
          case rel => exact ⟨i + 1, by omega, by go_num, HB3⟩
          case measure => simp [intOf]; omega
        · clear hbw
          go_wp2_with fail
          go_roundw
          case rel => exact ⟨k + 1, by omega, by go_num, Lib.hid hb.out⟩
          case measure => simp [intOf]; omega
    · clear hbw
      have HBZ := Lib.hid hb.out
      clear hb
      go_wp2_with fail
      clear x0 x1 x2 y0 y1 y2
      go_loopw [7] (fun b5 wr => ∃ k : Nat, k ≤ d.zn ∧ b5 = .int .i64 k ∧ Hid (Below (w.heap.size + 2) W0 wr)) (fun b5 _ => d.zn - (intOf b5).toNat)
      case atStart => exact ⟨0, Nat.zero_le _, rfl, HBZ⟩
      case round =>
        clear HBZ
        obtain ⟨k, hk, rfl, hb⟩ := hrel
        obtain ⟨hbw, x0, x1, x2, y0, y1, y2⟩ := HX.out _ hb.out
        by_cases hlt : k < d.zn
        · obtain ⟨b, o, b', o', nm, A, m, cp, A', cp', hA, hA', hml, hcell, hin⟩ := GZ.out k hlt
          have HC := Lib.hid hcell
          have HIN := Lib.hid hin
          have hml : m ≤ 9223372036854775807 := hml
          obtain ⟨e0, e1, e2, e3⟩ := hcell _ hbw
          rw [hA] at x1
          rw [hA'] at y1
          have hs : (nm.toList == nm.toList) = true := by simp
          have hsn : (nm.toList != nm.toList) = false := by simp
          have hmm : ((m : Int) != (m : Int)) = false := by simp
          clear hcell hin hbw
          go_wp2_with fail
          go_quiet (fail)
          have HB2 := Lib.hid (below_drewN hb.out nq)
          clear hb e0 e1 e2 e3 x0 x1 x2 y0 y1 y2
          go_wp2_with fail
          go_loopw [8] (fun b6 wr => ∃ i : Nat, i ≤ m ∧ b6 = .int .i64 i ∧ Hid (Below (w.heap.size + 2) W0 wr)) (fun b6 _ => m - (intOf b6).toNat)
          case atStart => exact ⟨0, Nat.zero_le _, rfl, HB2⟩
          case round =>
            clear HB2
            obtain ⟨i, hi, rfl, hb⟩ := hrel
            obtain ⟨hbw, x0, x1, x2, y0, y1, y2⟩ := HX.out _ hb.out
            rw [hA] at x1
            rw [hA'] at y1
            obtain ⟨e0, e1, e2, e3⟩ := HC.out _ hbw
            by_cases hit : i < m
            · obtain ⟨f, g, f', g', r, rfl, rfl, hr⟩ := HIN.out i hit
              obtain ⟨⟨k0, k1, k2, k3, k4⟩, ⟨j0, j1, j2, j3, j4⟩⟩ := hr _ hbw
              clear hr hbw
              have hle : (r.fmt.toList == r.fmt.toList) = true := by simp
              go_wp2_with fail
              go_quiet (fail)
              have HB3 := Lib.hid (below_drewN hb.out nq)
              clear hb e0 e1 e2 e3 x0 x1 x2 y0 y1 y2 k0 j0 k1 j1 k2 j2 k3 j3 k4 j4
              go_wp2_with fail
              go_roundw
              case rel => exact ⟨i + 1, by omega, by go_num, HB3⟩
              case measure => simp [intOf]; omega
            · clear hbw
              go_wp2_with fail
              go_roundw
              case rel => exact ⟨k + 1, by omega, by go_num, Lib.hid hb.out⟩
              case measure => simp [intOf]; omega
        · clear hbw
          have HBL := Lib.hid hb.out
          clear hb
          go_wp2_with fail
          clear x0 x1 x2 y0 y1 y2
          go_loopw [9] (fun b9 wr => ∃ k : Nat, k ≤ d.ln ∧ b9 = .int .i64 k ∧ Hid (Below (w.heap.size + 2) W0 wr)) (fun b9 _ => d.ln - (intOf b9).toNat)
          case atStart => exact ⟨0, Nat.zero_le _, rfl, HBL⟩
          case round =>
            clear HBL
            obtain ⟨k, hk, rfl, hb⟩ := hrel
            obtain ⟨hbw, x0, x1, x2, y0, y1, y2⟩ := HX.out _ hb.out
            by_cases hlt : k < d.ln
            · obtain ⟨b, o, b', o', n1, n2, hA, hA', hcell⟩ := GL.out k hlt
              obtain ⟨e0, e1, e2, e3⟩ := hcell _ hbw
              rw [hA] at x2
              rw [hA'] at y2
              have hs1 : (n1.toList == n1.toList) = true := by simp
              have hs2 : (n2.toList == n2.toList) = true := by simp
              clear hcell hbw
              go_wp2_with fail
              go_quiet (fail)
              have HB3 := Lib.hid (below_drewN hb.out nq)
              clear hb e0 e1 e2 e3 x0 x1 x2 y0 y1 y2
              go_wp2_with fail
              go_roundw
              case rel => exact ⟨k + 1, by omega, by go_num, HB3⟩
              case measure => simp [intOf]; omega
            · have HF := Lib.hid hbw
              clear hbw hb
              go_wp2_with fail
              go_ret
              exact ⟨rfl, HF.out⟩
end Go.Proofs.YthhjgndaiimgjaaGreatDoor
end
