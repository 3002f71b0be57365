/- The walk of the reference's LookOf. -/
import Derived.BigQuiet
import Derived.Test.YtlngalmdidaahaaGreatDoorMUMostP43
import Derived.Test.YtlngalmdidaahaaGreatDoorMUMostP1
import Derived.Test.YtlngalmdidaahaaGreatDoorMUMostP13
set_option linter.unusedSimpArgs false
set_option linter.unusedVariables false
/-! The walk of the reference's LookOf. -/
section
set_option linter.unusedVariables false
set_option linter.unusedSimpArgs false
namespace Gno
open Go
def oOf (o : Option Tn) : Of_ := match o with | some y => y.off | none => ⟨0, 0, ⟨#[]⟩⟩
theorem lastLe_step {t : Int} {l : List Tn} {k : Nat} {y : Tn} (h : l[k]? = some y) : lastLe t l (k + 1) = if y.a ≤ t then some y else lastLe t l k := by
  show (match l[k]? with | some y => if y.a ≤ t then some y else lastLe t l k | none => lastLe t l k) = _
  rw [h]
theorem lookY_oOf {l : List Tn} {t : Int} (h : lookE l t = 0) : (lookY l t).off = oOf (lastLe t l l.length) := by
  unfold lookY
  rw [h, if_pos rfl]
  cases lastLe t l l.length <;> rfl
/-- as the reference looks at it. -/
def goodAt (l : List Tn) (k : Nat) : Prop := ∀ y, l[k]? = some y → y.a < 1893456000 ∧ ∀ x, 0 < k → l[k - 1]? = some x → x.a < y.a
theorem FineL.good {l : List Tn} (h : FineL l) (k : Nat) : goodAt l k := by
  intro y hy
  have hl := (List.getElem?_eq_some_iff.1 hy).1
  refine ⟨?_, fun x hk hx => h.lt (by omega) hx hy⟩
  have hq := List.getElem?_eq_getElem (l := l) (i := l.length - 1) (by omega)
  have h1 := h.last _ hq
  by_cases e : k = l.length - 1
  · subst e; rw [hq] at hy; injection hy with hy; rw [← hy]; exact h1
  · have := h.lt (by omega) hy hq; omega
theorem fine_of {l : List Tn} (hp : 0 < l.length) (h0 : ∀ y, l[0]? = some y → y.a = 0) (h : ∀ k, k < l.length → goodAt l k) : FineL l :=
  { pos := hp, first := h0, last := fun y hy => (h _ (by omega) y hy).1, asc := fun j y hy => by
      have hl := (List.getElem?_eq_some_iff.1 hy).1
      cases j with
      | zero => have := h0 y hy; show (-1 : Int) < y.a; omega
      | succ j =>
        have hq := List.getElem?_eq_getElem (l := l) (i := j) (by omega)
        rw [lastA_step hq]
        exact (h _ hl y hy).2 _ (by omega) hq }
end Gno
namespace Go.Proofs.YtlngalmdidaahaaGreatDoor
open Go.RowKit Gno
set_option maxRecDepth 100000 in
set_option maxHeartbeats 4000000 in
theorem lookOf_any (A : Option Addr) (n cap : Nat) (l : List Tn) (t : Int) (w : World) (hT : TurnsAt w w.heap.size A n l) (hn : n ≤ 1073741824) :
    Calls Tryz.prog 16 #[.slice A n cap, .int .i64 t] w fun e w' => e = .returned (.tuple #[.agg #[.int .i64 (lookY l t).tt, .int .i64 (lookY l t).sv, .string (lookY l t).ab], .int .i64 (lookE l t)]) ∧ Below w.heap.size w w' := by
  have hl : l.length = n := hT.1
  have HQ : Hid (∀ W, Below (w.heap.size + 1) (w.alloc (.cells #[.int .i64 0, .int .i64 0, .string ⟨#[]⟩] 28)) W → Below w.heap.size w W ∧ TurnsAt W W.heap.size A n l ∧ (W.cell? ⟨w.heap.size, 0, none⟩ = some (.int .i64 0) ∧ W.cell? ⟨w.heap.size, 1, none⟩ = some (.int .i64 0) ∧ W.cell? ⟨w.heap.size, 2, none⟩ = some (.string ⟨#[]⟩) ∧ W.frozen? ⟨w.heap.size, 0, none⟩ = false ∧ W.frozen? ⟨w.heap.size, 1, none⟩ = false ∧ W.frozen? ⟨w.heap.size, 2, none⟩ = false) ∧ W.heap[w.heap.size]? = some (.cells #[.int .i64 0, .int .i64 0, .string ⟨#[]⟩] 28)) := Lib.hid (fun W h => by
    have k := (h.block w.heap.size (by simp)).trans (World.alloc_heap_new w (.cells #[.int .i64 0, .int .i64 0, .string ⟨#[]⟩] 28))
    have hb : Below w.heap.size w W := ((Below.refl w.heap.size w).alloc (Nat.le_refl _) _).trans (h.mono (by omega))
    exact ⟨hb, hT.next hb, ⟨cell_of k rfl, cell_of k rfl, cell_of k rfl, frozen_of k, frozen_of k, frozen_of k⟩, k⟩)
  have hbb : Below (w.heap.size + 1) (w.alloc (.cells #[.int .i64 0, .int .i64 0, .string ⟨#[]⟩] 28)) (w.alloc (.cells #[.int .i64 0, .int .i64 0, .string ⟨#[]⟩] 28)) := Below.refl _ _
  by_cases hn0 : n = 0
  · subst hn0
    have hnf : fineB l = false := fineB_no (fun h => by have := h.pos; omega)
    have hE : lookE l t = 1 := by unfold lookE; rw [hnf]; rfl
    have hY := lookY_bad hE (by decide)
    rw [hE, hY]
    clear hE hY hnf hl hT
    go_enter Tryz.func16, Tryz.ntmps16
    go_wp2
    refine bodyPost_ret (results_cell_row_tmp rfl _ _ w.heap.size 28 _ (0, 0) _ rfl (World.alloc_heap_new w _) Tryz.underlying28 rfl (by kernel_rfl)) rfl ⟨?_, (Below.refl _ _).alloc (Nat.le_refl _) _⟩
    rfl
  · obtain ⟨b, o, y0, hA, hbB, hy0, _, hc0⟩ := turns_get hT (i := 0) (by omega)
    subst hA
    have hneq : ((n : Int) == 0) = false := by simp; omega
    have hpos : (0 : Int) < (n : Int) := by omega
    have HTC : Hid (∀ j, j < n → ∃ y, l[j]? = some y ∧ ∀ W, Below (w.heap.size + 1) (w.alloc (.cells #[.int .i64 0, .int .i64 0, .string ⟨#[]⟩] 28)) W → TnAt W b (o + j * 4) y) := Lib.hid (fun j hj => by
      obtain ⟨b', o', y, hA', _, hy, _, hc⟩ := turns_get hT hj
      injection hA' with hA'
      injection hA' with q1 q2 _
      subst q1
      subst q2
      exact ⟨y, hy, fun W h => hc W (HQ.out W h).1⟩)
    have c0 := (hc0 _ (HQ.out _ hbb).1).1
    rw [show o + 0 * 4 = o by omega] at c0
    by_cases h0 : y0.a = 0
    · have g0 : (y0.a != 0) = false := by simpa using h0
      have HFO : Hid ((∀ k, k < n → goodAt l k) → FineL l) := Lib.hid (fun h => fine_of (by omega) (fun y hy => by rw [hy0] at hy; injection hy with hy; rw [← hy]; exact h0) (fun k hk => h k (by omega)))
      have HL := Lib.hid hl
      clear hT hl hy0 hc0 hbB h0
      go_enter Tryz.func16, Tryz.ntmps16
      go_wp2_with fail
      clear c0
      go_loopw [6] (fun b6 wr => ∃ k : Nat, k ≤ n ∧ b6 = .int .i64 k ∧ Hid (∀ j, j < k → goodAt l j) ∧ Hid (Below (w.heap.size + 1) (w.alloc (.cells #[.int .i64 0, .int .i64 0, .string ⟨#[]⟩] 28)) wr)) (fun b6 _ => n - (intOf b6).toNat)
      case atStart => exact ⟨0, Nat.zero_le _, rfl, Lib.hid (fun j hj => by omega), Lib.hid hbb⟩
      case round =>
        obtain ⟨k, hk, rfl, hgo, hb⟩ := hrel
        obtain ⟨wo, hwo⟩ : ∃ v : World, v = wr := ⟨_, rfl⟩
        rw [← hwo] at hb
        rw [← hwo]
        clear hwo
        by_cases hkt : k < n
        · obtain ⟨y, hy, hyc⟩ := HTC.out k hkt
          obtain ⟨e0, _⟩ := hyc _ hb.out
          have HY := Lib.hid hy
          clear hyc hy
          by_cases he : y.a < 1893456000
          · have ge : decide ((1893456000 : Int) ≤ y.a) = false := by simp; omega
            by_cases hk0 : 0 < k
            · have gk : decide ((0 : Int) < (k : Int)) = true := by simpa using hk0
              obtain ⟨J, hJ⟩ : ∃ J : Nat, J = k - 1 := ⟨_, rfl⟩
              have hJn : J < n := by omega
              obtain ⟨x, hx, hxc⟩ := HTC.out J hJn
              obtain ⟨d0, _⟩ := hxc _ hb.out
              have gw : IntKind.i64.wrap ((k : Int) - 1) = (J : Int) := by rw [show (k : Int) - 1 = (J : Int) by omega]; exact wrap_big (by omega) (by omega)
              have gJ0 : (0 : Int) ≤ (J : Int) := by omega
              have gJ1 : (J : Int) < (n : Int) := by omega
              by_cases hxy : x.a < y.a
              · have gx : decide (y.a ≤ x.a) = false := by simp; omega
                have HGO : Hid (∀ j, j < k + 1 → goodAt l j) := Lib.hid (fun j hj => by
                  by_cases e : j = k
                  · subst e
                    intro z hz
                    rw [HY.out] at hz; injection hz with hz; subst hz
                    refine ⟨he, fun x' _ hx' => ?_⟩
                    rw [← hJ, hx] at hx'; injection hx' with hx'; subst hx'; exact hxy
                  · exact hgo.out j (by omega))
                clear hx hxc hJ he hxy hgo HY
                go_wp2_with fail
                go_quiet (fail)
                go_wp2
                go_roundw
                case rel => exact ⟨k + 1, by omega, by go_num, HGO, Lib.hid (below_drewN hb.out _)⟩
                case measure => simp [intOf]; omega
              · have gx : decide (y.a ≤ x.a) = true := by simp; omega
                have hnf : fineB l = false := fineB_no (fun h => hxy ((h.good k y HY.out).2 x hk0 (by rw [← hJ]; exact hx)))
                have hE : lookE l t = 1 := by unfold lookE; rw [hnf]; rfl
                have hY := lookY_bad hE (by decide)
                have HE := Lib.hid hE
                have HYB := Lib.hid hY
                clear hE hY hnf hx hxc hJ he hxy hgo HY
                go_wp2_with fail
                go_quiet (fail)
                obtain ⟨hbw, _, ⟨r0, r1, r2, f0, f1, f2⟩, k2⟩ := HQ.out _ (below_drewN hb.out nq)
                have K2 := Lib.hid k2
                have HBW := Lib.hid hbw
                clear k2 hbw
                go_wp2
                refine bodyPost_ret (results_cell_row_tmp rfl _ _ w.heap.size 28 _ (0, 0) _ rfl (set_obj (set_obj (set_obj K2.out _) _) _) Tryz.underlying28 rfl (by kernel_rfl)) rfl ⟨?_, ((HBW.out.setCell (by simp) _).setCell (by simp) _).setCell (by simp) _⟩
                rw [HE.out, HYB.out]
                rfl
            · have gk : decide ((0 : Int) < (k : Int)) = false := by simpa using hk0
              have HGO : Hid (∀ j, j < k + 1 → goodAt l j) := Lib.hid (fun j hj => by
                by_cases e : j = k
                · subst e
                  intro z hz
                  rw [HY.out] at hz; injection hz with hz; subst hz
                  exact ⟨he, fun x' q _ => absurd q hk0⟩
                · exact hgo.out j (by omega))
              clear he hgo HY
              go_wp2_with fail
              go_quiet (fail)
              go_wp2
              go_roundw
              case rel => exact ⟨k + 1, by omega, by go_num, HGO, Lib.hid (below_drewN hb.out _)⟩
              case measure => simp [intOf]; omega
          · have ge : decide ((1893456000 : Int) ≤ y.a) = true := by simp; omega
            have hnf : fineB l = false := fineB_no (fun h => he (h.good k y HY.out).1)
            have hE : lookE l t = 1 := by unfold lookE; rw [hnf]; rfl
            have hY := lookY_bad hE (by decide)
            have HE := Lib.hid hE
            have HYB := Lib.hid hY
            clear hE hY hnf he hgo HY
            go_wp2_with fail
            go_quiet (fail)
            obtain ⟨hbw, _, ⟨r0, r1, r2, f0, f1, f2⟩, k2⟩ := HQ.out _ (below_drewN hb.out nq)
            have K2 := Lib.hid k2
            have HBW := Lib.hid hbw
            clear k2 hbw
            go_wp2
            refine bodyPost_ret (results_cell_row_tmp rfl _ _ w.heap.size 28 _ (0, 0) _ rfl (set_obj (set_obj (set_obj K2.out _) _) _) Tryz.underlying28 rfl (by kernel_rfl)) rfl ⟨?_, ((HBW.out.setCell (by simp) _).setCell (by simp) _).setCell (by simp) _⟩
            rw [HE.out, HYB.out]
            rfl
        · have hf : fineB l = true := fineB_yes (HFO.out (fun j hj => hgo.out j (by omega)))
          clear hgo
          by_cases ht : 0 ≤ t ∧ t < 1893456000
          · have hE : lookE l t = 0 := by unfold lookE; rw [if_pos hf, if_neg (by omega)]
            have IT : Hid (∀ w, Calls Tryz.prog 30 #[.int .i64 t] w fun e w' => e = .returned (.bool true) ∧ w = w') := Lib.hid (fun w => by
              have := isTime_any t w
              rwa [show timeOk t = true by unfold timeOk; exact (withinB_iff _ _ _).2 (by omega)] at this)
            have HYO := Lib.hid (lookY_oOf hE)
            have HE := Lib.hid hE
            obtain ⟨RY, hRY⟩ : ∃ v, v = lookY l t := ⟨_, rfl⟩
            rw [← hRY] at HYO
            have HRE := Lib.hid hRY
            clear hE hRY hf ht
            go_wp2_with fail
            refine (IT.out _).mono ?_
            rintro e w3 ⟨rfl, rfl⟩
            have HW : Hid (Below (w.heap.size + 1) (w.alloc (.cells #[.int .i64 0, .int .i64 0, .string ⟨#[]⟩] 28)) (wo.alloc (.cells #[.int .i64 0, .int .i64 0, .string ⟨#[]⟩] 28))) := Lib.hid (hb.out.alloc (by have := hb.out.size; simp at this ⊢ <;> omega) _)
            have HGO : Hid (w.heap.size + 1 ≤ wo.heap.size) := Lib.hid (by have := hb.out.size; simp at this; omega)
            go_wp2_with fail
            go_loopw [8] (fun b8 wr => ∃ k : Nat, k ≤ n ∧ b8 = .int .i64 k ∧ Hid (Below (w.heap.size + 1) (w.alloc (.cells #[.int .i64 0, .int .i64 0, .string ⟨#[]⟩] 28)) wr) ∧ Hid (wr.heap[wo.heap.size]? = some (.cells #[.int .i64 (oOf (lastLe t l k)).tt, .int .i64 (oOf (lastLe t l k)).sv, .string (oOf (lastLe t l k)).ab] 28))) (fun b8 _ => n - (intOf b8).toNat)
            case atStart => exact ⟨0, Nat.zero_le _, rfl, HW, Lib.hid (World.alloc_heap_new _ _)⟩
            case round =>
              obtain ⟨k2, hk2, rfl, hb2, hh2⟩ := hrel
              obtain ⟨wq, hwq⟩ : ∃ v : World, v = wr := ⟨_, rfl⟩
              rw [← hwq] at hb2 hh2
              rw [← hwq]
              clear hwq
              by_cases hkt2 : k2 < n
              · obtain ⟨y, hy, hyc⟩ := HTC.out k2 hkt2
                obtain ⟨e0, e1, e2, e3⟩ := hyc _ hb2.out
                have HS := Lib.hid (lastLe_step (t := t) hy)
                clear hyc hy
                by_cases hq : y.a ≤ t
                · have gq : decide (y.a ≤ t) = true := by simpa using hq
                  have HS2 : Hid (lastLe t l (k2 + 1) = some y) := Lib.hid (by rw [HS.out, if_pos hq])
                  obtain ⟨OO, hOO⟩ : ∃ v, v = oOf (lastLe t l k2) := ⟨_, rfl⟩
                  rw [← hOO] at hh2
                  have q0 : wq.cell? ⟨wo.heap.size, 0, none⟩ = some (.int .i64 OO.tt) := cell_of hh2.out rfl
                  have q1 : wq.cell? ⟨wo.heap.size, 1, none⟩ = some (.int .i64 OO.sv) := cell_of hh2.out rfl
                  have q2 : wq.cell? ⟨wo.heap.size, 2, none⟩ = some (.string OO.ab) := cell_of hh2.out rfl
                  have f0 : wq.frozen? ⟨wo.heap.size, 0, none⟩ = false := frozen_of hh2.out
                  have f1 : wq.frozen? ⟨wo.heap.size, 1, none⟩ = false := frozen_of hh2.out
                  have f2 : wq.frozen? ⟨wo.heap.size, 2, none⟩ = false := frozen_of hh2.out
                  clear hq hOO HS
                  go_wp2
                  go_roundw
                  case rel => exact ⟨k2 + 1, by omega, by go_num, Lib.hid (((hb2.out.setCell (p := ⟨wo.heap.size, 0, none⟩) HGO.out _).setCell (p := ⟨wo.heap.size, 1, none⟩) HGO.out _).setCell (p := ⟨wo.heap.size, 2, none⟩) HGO.out _), Lib.hid (by rw [HS2.out]; exact (set_obj (set_obj (set_obj hh2.out _) _) _).trans rfl)⟩
                  case measure => simp [intOf]; omega
                · have gq : decide (y.a ≤ t) = false := by simpa using hq
                  have HS2 : Hid (lastLe t l (k2 + 1) = lastLe t l k2) := Lib.hid (by rw [HS.out, if_neg hq])
                  clear hq HS
                  go_wp2
                  go_roundw
                  case rel => exact ⟨k2 + 1, by omega, by go_num, hb2, Lib.hid (by rw [HS2.out]; exact hh2.out)⟩
                  case measure => simp [intOf]; omega
              · have hkn : k2 = n := by omega
                have HRY : Hid (oOf (lastLe t l k2) = RY.off) := Lib.hid (by rw [hkn, ← HL.out]; exact HYO.out.symm)
                rw [HRY.out] at hh2
                have q0 : wq.cell? ⟨wo.heap.size, 0, none⟩ = some (.int .i64 RY.tt) := cell_of hh2.out rfl
                have q1 : wq.cell? ⟨wo.heap.size, 1, none⟩ = some (.int .i64 RY.sv) := cell_of hh2.out rfl
                have q2 : wq.cell? ⟨wo.heap.size, 2, none⟩ = some (.string RY.ab) := cell_of hh2.out rfl
                clear hkn
                obtain ⟨hbw, _, ⟨r0, r1, r2, f0, f1, f2⟩, k2⟩ := HQ.out _ hb2.out
                have K2 := Lib.hid k2
                have HBW := Lib.hid hbw
                clear k2 hbw
                go_wp2
                refine bodyPost_ret (results_cell_row_tmp rfl _ _ w.heap.size 28 _ (0, 0) _ rfl (set_obj (set_obj (set_obj K2.out _) _) _) Tryz.underlying28 rfl (by kernel_rfl)) rfl ⟨?_, ((HBW.out.setCell (by simp) _).setCell (by simp) _).setCell (by simp) _⟩
                rw [← HRE.out, HE.out]
                rfl
          · have hE : lookE l t = 3 := by unfold lookE; rw [if_pos hf, if_pos (by omega)]
            have hY := lookY_bad hE (by decide)
            have IT : Hid (∀ w, Calls Tryz.prog 30 #[.int .i64 t] w fun e w' => e = .returned (.bool false) ∧ w = w') := Lib.hid (fun w => by
              have := isTime_any t w
              rwa [show timeOk t = false by unfold timeOk; exact (withinB_no _ _ _).2 (by omega)] at this)
            have HE := Lib.hid hE
            have HYB := Lib.hid hY
            clear hE hY hf ht
            go_wp2_with fail
            refine (IT.out _).mono ?_
            rintro e w3 ⟨rfl, rfl⟩
            obtain ⟨hbw, _, ⟨r0, r1, r2, f0, f1, f2⟩, k2⟩ := HQ.out _ hb.out
            have K2 := Lib.hid k2
            have HBW := Lib.hid hbw
            clear k2 hbw
            go_wp2
            refine bodyPost_ret (results_cell_row_tmp rfl _ _ w.heap.size 28 _ (0, 0) _ rfl (set_obj (set_obj (set_obj K2.out _) _) _) Tryz.underlying28 rfl (by kernel_rfl)) rfl ⟨?_, ((HBW.out.setCell (by simp) _).setCell (by simp) _).setCell (by simp) _⟩
            rw [HE.out, HYB.out]
            rfl
    · have g0 : (y0.a != 0) = true := by simpa using h0
      have hnf : fineB l = false := fineB_no (fun h => h0 (h.first y0 hy0))
      have hE : lookE l t = 1 := by unfold lookE; rw [hnf]; rfl
      have hY := lookY_bad hE (by decide)
      rw [hE, hY]
      clear hE hY hnf hl hT hy0 hc0 hbB h0
      go_enter Tryz.func16, Tryz.ntmps16
      go_wp2
      refine bodyPost_ret (results_cell_row_tmp rfl _ _ w.heap.size 28 _ (0, 0) _ rfl (World.alloc_heap_new w _) Tryz.underlying28 rfl (by kernel_rfl)) rfl ⟨?_, (Below.refl _ _).alloc (Nat.le_refl _) _⟩
      rfl
end Go.Proofs.YtlngalmdidaahaaGreatDoor
end
