/- Laid together: Times1, Times2. -/
import Derived.BigQuiet
import Derived.Deep.QuietTactic
import Derived.Test.YtlngalmdidaahaaGreatDoorMUMostP0
import Derived.Test.YtlngalmdidaahaaGreatDoorMUMostP1
import Derived.Test.YtlngalmdidaahaaGreatDoorMUMostP2
import Derived.Test.YtlngalmdidaahaaGreatDoorMUMostP3
import Derived.Test.YtlngalmdidaahaaGreatDoorMUMostP4
import Derived.Test.YtlngalmdidaahaaGreatDoorMUMostP5
import Derived.Test.YtlngalmdidaahaaGreatDoorMUMostP6
import Derived.Test.YtlngalmdidaahaaGreatDoorMUMostP7
import Derived.Test.YtlngalmdidaahaaGreatDoorMUMostP8
import Derived.Test.YtlngalmdidaahaaGreatDoorMUMostP9
import Derived.Test.YtlngalmdidaahaaGreatDoorMUMostP10
import Derived.Test.YtlngalmdidaahaaGreatDoorMUMostP11
import Derived.Test.YtlngalmdidaahaaGreatDoorMUMostP12
import Derived.Test.YtlngalmdidaahaaGreatDoorMUMostP13
import Derived.Test.YtlngalmdidaahaaGreatDoorMUMostP14
import Derived.Test.YtlngalmdidaahaaGreatDoorMUMostP15
import Derived.Test.YtlngalmdidaahaaGreatDoorMUMostP16
import Derived.Test.YtlngalmdidaahaaGreatDoorMUMostP17
import Derived.Test.YtlngalmdidaahaaGreatDoorMUMostP18
import Derived.Test.YtlngalmdidaahaaGreatDoorMUMostP19
import Derived.Test.YtlngalmdidaahaaGreatDoorMUMostP20
import Derived.Test.YtlngalmdidaahaaGreatDoorMUMostP21
import Derived.Test.YtlngalmdidaahaaGreatDoorMUMostP22
import Derived.Test.YtlngalmdidaahaaGreatDoorMUMostP23
import Derived.Test.YtlngalmdidaahaaGreatDoorMUMostP24
import Derived.Test.YtlngalmdidaahaaGreatDoorMUMostP25
import Derived.Test.YtlngalmdidaahaaGreatDoorMUMostP26
import Derived.Test.YtlngalmdidaahaaGreatDoorMUMostP27
import Derived.Test.YtlngalmdidaahaaGreatDoorMUMostP28
import Derived.Test.YtlngalmdidaahaaGreatDoorMUMostP29
import Derived.Test.YtlngalmdidaahaaGreatDoorMUMostP30
import Derived.Test.YtlngalmdidaahaaGreatDoorMUMostP31
import Derived.Test.YtlngalmdidaahaaGreatDoorMUMostP32
import Derived.Test.YtlngalmdidaahaaGreatDoorMUMostP33
import Derived.Test.YtlngalmdidaahaaGreatDoorMUMostP34
import Derived.Test.YtlngalmdidaahaaGreatDoorMUMostP35
import Derived.Test.YtlngalmdidaahaaGreatDoorMUMostP36
import Derived.Test.YtlngalmdidaahaaGreatDoorMUMostP37
import Derived.Test.YtlngalmdidaahaaGreatDoorMUMostP38
import Derived.Test.YtlngalmdidaahaaGreatDoorMUMostP39
import Derived.Test.YtlngalmdidaahaaGreatDoorMUMostP40
import Derived.Test.YtlngalmdidaahaaGreatDoorMUMostP41
import Derived.Test.YtlngalmdidaahaaGreatDoorMUMostP42
import Derived.Test.YtlngalmdidaahaaGreatDoorMUMostP43
import Derived.Test.YtlngalmdidaahaaGreatDoorMUMostP44
import Derived.Test.YtlngalmdidaahaaGreatDoorMUMostP45
import Derived.Test.YtlngalmdidaahaaGreatDoorMUMostP46
import Derived.Test.YtlngalmdidaahaaGreatDoorQTimesR
set_option linter.unusedSimpArgs false
set_option linter.unusedVariables false
/- gnomonref.times' closure: a time put among the others. -/
set_option linter.unusedVariables false
set_option linter.unusedSimpArgs false
namespace Gno
open Go
theorem insT_put {t : Int} : ∀ {l : List Int} {k : Nat}, k ≤ l.length → (∀ i y, i < k → l[i]? = some y → y < t) → (∀ y, l[k]? = some y → t < y) → insT t l = l.take k ++ t :: l.drop k
  | [], k, h, _, _ => by simp [insT]
  | a :: r, 0, _, _, h2 => by
    have h3 := h2 a rfl
    unfold insT
    rw [if_neg (by omega), if_neg (by omega)]
    rfl
  | a :: r, k + 1, h, h1, h2 => by
    have h3 := h1 0 a (by omega) rfl
    unfold insT
    rw [if_pos h3, insT_put (l := r) (k := k) (by simpa using h) (fun i y hi hy => h1 (i + 1) y (by omega) (by simpa using hy)) (fun y hy => h2 y (by simpa using hy))]
    rfl
theorem insT_has {t : Int} : ∀ {l : List Int} {k : Nat}, (∀ i y, i < k → l[i]? = some y → y < t) → l[k]? = some t → insT t l = l
  | [], k, _, h => by simp at h
  | a :: r, 0, _, h => by
    obtain rfl : a = t := by simpa using h
    unfold insT
    rw [if_neg (by omega), if_pos rfl]
  | a :: r, k + 1, h1, h => by
    have h3 := h1 0 a (by omega) rfl
    unfold insT
    rw [if_pos h3, insT_has (l := r) (k := k) (fun i y hi hy => h1 (i + 1) y (by omega) (by simpa using hy)) (by simpa using h)]
theorem rise_len {hi : Int} : ∀ (l : List Int) (lo : Int), l.Pairwise (· < ·) → (∀ n ∈ l, lo ≤ n ∧ n < hi) → (l.length : Int) ≤ max 0 (hi - lo)
  | [], lo, _, _ => by simp; omega
  | a :: r, lo, h, hb => by
    obtain ⟨h1, h2⟩ := List.pairwise_cons.1 h
    have h3 := hb a (by simp)
    have := rise_len r (a + 1) h2 (fun n hn => ⟨by have := h1 n hn; omega, (hb n (by simp [hn])).2⟩)
    rw [List.length_cons]
    omega
theorem times_few {l : List Int} (h : TimesOk l) : l.length ≤ 1893456000 := by
  have := rise_len l 0 h.rise h.bd
  omega
end Gno
namespace Go.Proofs.YtlngalmdidaahaaGreatDoor
open Go.RowKit Gno
/-- the times so far, in a box of the call's own; other boxes beside. -/
structure LBox (base B : Nat) (w0 w : World) (fs : List (Nat × Obj)) (l : List Int) (v : Value) : Prop where
  box : w.heap[B]? = some (.cells #[v] 71 (0, 0))
  row : w.ownsRow base 3 1 v l.length (ints l)
  off : v.ownBlock ≠ some B
  below : Below base w0 w
  baseB : base ≤ B
  bs : base ≤ w.heap.size
  fs : ∀ p ∈ fs, w.heap[p.1]? = some p.2 ∧ p.1 ≠ B ∧ v.ownBlock ≠ some p.1
theorem ints_one (l : List Int) : ∀ u ∈ ints l, u.oneCell' = true := by
  intro u hu
  unfold ints at hu
  obtain ⟨x, _, rfl⟩ := List.mem_map.1 hu
  rfl
theorem own_blockT {w : World} {B g n cap sz : Nat} {e : TypeId} {xs : List Value} (h : w.ownsRow B e sz (.slice (some ⟨g, 0, none⟩) n cap) n xs) :
    ∃ cur, B ≤ g ∧ w.heap[g]? = some (.cells cur e (0, 0)) ∧ n ≤ cap ∧ cap ≤ maxLen ∧ cur.size = cap * sz ∧ cur.toList.take (n * sz) = xs := by
  rcases h.2 with ⟨e1, _⟩ | ⟨g', cap', cur, e1, hb, hg, hnc, hcm, hcs, ht⟩
  · cases e1
  · injection e1 with e1 _ e3
    injection e1 with e1
    injection e1 with e1 _ _
    subst e1
    subst e3
    exact ⟨cur, hb, hg, hnc, hcm, hcs, ht⟩
/-- behind the append: the new row, and what else lies there. -/
structure PutA (base B : Nat) (w0 w1 : World) (fs : List (Nat × Obj)) (l : List Int) (v : Value) (n g cp : Nat) : Prop where
  box : w1.heap[B]? = some (.cells #[v] 71 (0, 0))
  row : w1.ownsRow base 3 1 (.slice (some ⟨g, 0, none⟩) (n + 1) cp) (n + 1) (ints l ++ [.int .i64 0])
  off : g ≠ B
  below : Below base w0 w1
  baseB : base ≤ B
  bs : base ≤ w1.heap.size
  fs : ∀ p ∈ fs, w1.heap[p.1]? = some p.2 ∧ p.1 ≠ B ∧ g ≠ p.1
theorem put_row {base B n : Nat} {w0 w w1 : World} {fs : List (Nat × Obj)} {l : List Int} {v v' : Value} (h : LBox base B w0 w fs l v) (h1 : w1.ownsRow base 3 1 v' (n + 1) (ints l ++ [.int .i64 0]))
    (hg : (w.alloc (.cells #[.int .i64 0] 3)).grownBy w1 v.ownBlock) (hn : NearOr (w.alloc (.cells #[.int .i64 0] 3)) v v') (hz : 0 < n + 1) :
    ∃ g cp, v' = .slice (some ⟨g, 0, none⟩) (n + 1) cp ∧ Hid (PutA base B w0 w1 fs l v n g cp) := by
  obtain ⟨g, cp, rfl⟩ : ∃ g cp, v' = .slice (some ⟨g, 0, none⟩) (n + 1) cp := by
    rcases h1.2 with ⟨_, e⟩ | ⟨g, cp, _, rfl, _⟩
    · omega
    · exact ⟨g, cp, rfl⟩
  have hkeep : ∀ k o, w.heap[k]? = some o → v.ownBlock ≠ some k → w1.heap[k]? = some o := fun k o hk hne => by
    have hkl := (Array.getElem?_eq_some_iff.1 hk).1
    rw [hg.block k (by simp; omega) (fun e => hne e.symm), push_past _ _ _ hkl]
    exact hk
  have hng : ∀ k o, w.heap[k]? = some o → v.ownBlock ≠ some k → g ≠ k := fun k o hk hne e => by
    have hkl := (Array.getElem?_eq_some_iff.1 hk).1
    rcases hn with h2 | h2
    · apply hne; rw [← h2, ← e]; rfl
    · have := h2 g rfl
      simp at this
      omega
  refine ⟨g, cp, rfl, Lib.hid ⟨hkeep B _ h.box h.off, h1, hng B _ h.box h.off, ?_, h.baseB, ?_, fun p hp => ?_⟩⟩
  · exact (h.below.alloc h.bs _).grown hg (by have := h.bs; simp; omega) (fun k hk => (h.row.lt k hk).1)
  · have := hg.size; have := h.bs; simp at *; omega
  · obtain ⟨a, b, c⟩ := h.fs p hp
    exact ⟨hkeep _ _ a c, b, hng _ _ a c⟩
theorem PutA.boxed {base B n g cp : Nat} {w0 w1 : World} {fs : List (Nat × Obj)} {l : List Int} {v : Value} (h : PutA base B w0 w1 fs l v n g cp) : w1.cell? ⟨B, 0, none⟩ = some v ∧ w1.frozen? ⟨B, 0, none⟩ = false :=
  ⟨cell_of h.box rfl, frozen_of h.box⟩
theorem PutA.stored {base B n g cp k : Nat} {t : Int} {w0 w1 w2 : World} {fs : List (Nat × Obj)} {l : List Int} {v : Value} (h : PutA base B w0 w1 fs l v n g cp) (hl : l.length = n)
    (hw2 : w2 = w1.setCell ⟨B, 0, none⟩ (.slice (some ⟨g, 0, none⟩) (n + 1) cp)) (hk : k ≤ n) :
    ∃ cur, w2.cell? ⟨B, 0, none⟩ = some (.slice (some ⟨g, 0, none⟩) (n + 1) cp) ∧ w2.heap[g]? = some (.cells cur 3 (0, 0)) ∧ cur.size = cp ∧ cur.toList.take (n + 1) = ints l ++ [.int .i64 0] ∧ n + 1 ≤ cp ∧ cp ≤ 9223372036854775807 ∧
      Hid (∀ (q : Nat) (c2 : Array Value) (w3 : World), c2.size = cp → (c2.toList.set k (.int .i64 t)).take (n + 1) = (ints l).take k ++ .int .i64 t :: (ints l).drop k → w3 = (w2.drewN q).setRow g c2 →
        ∃ x, w3.cell? ⟨B, 0, none⟩ = some (.slice (some ⟨g, 0, none⟩) (n + 1) cp) ∧ w3.cell? ⟨g, k, none⟩ = some x ∧ w3.frozen? ⟨g, k, none⟩ = false ∧
          Hid (LBox base B w0 (w3.setCell ⟨g, k, none⟩ (.int .i64 t)) fs (l.take k ++ t :: l.drop k) (.slice (some ⟨g, 0, none⟩) (n + 1) cp))) := by
  obtain ⟨cur, hgb, hg, hnc, hcm, hcs, ht⟩ := own_blockT h.row
  rw [Nat.mul_one] at hcs ht
  unfold maxLen at hcm
  have e2 : w2.heap[B]? = some (.cells #[.slice (some ⟨g, 0, none⟩) (n + 1) cp] 71 (0, 0)) := by rw [hw2]; exact (set_obj h.box _).trans rfl
  have hg2 : w2.heap[g]? = some (.cells cur 3 (0, 0)) := by rw [hw2]; exact (Below.heap_setCell w1 ⟨B, 0, none⟩ _ _ (fun e => h.off e)).trans hg
  have hf2 : ∀ p ∈ fs, w2.heap[p.1]? = some p.2 := fun p hp => by
    obtain ⟨a, b, _⟩ := h.fs p hp
    rw [hw2]; exact (Below.heap_setCell w1 ⟨B, 0, none⟩ _ _ (fun e => b e)).trans a
  have hb2 : Below base w0 w2 := by rw [hw2]; exact h.below.setCell (p := ⟨B, 0, none⟩) h.baseB _
  have hs2 : base ≤ w2.heap.size := by rw [hw2]; simpa using h.bs
  refine ⟨cur, cell_of e2 rfl, hg2, hcs, ht, hnc, hcm, Lib.hid fun q c2 w3 hc2 ht2 hw3 => ?_⟩
  have e3 : ∀ k o, k ≠ g → w2.heap[k]? = o → w3.heap[k]? = o := fun k o hne hk => by rw [hw3, setRow_other _ _ _ _ hne]; exact hk
  have hg3 : w3.heap[g]? = some (.cells c2 3 (0, 0)) := by rw [hw3]; exact setRow_heap (w2.drewN q) g cur _ _ _ hg2
  have hkc : k < c2.size := by omega
  have hb3 : Below base w0 w3 := by rw [hw3]; exact below_setRow (hb2.trans (show Below base w2 (w2.drewN q) from ⟨rfl, rfl, rfl, Nat.le_refl _, fun _ _ => rfl⟩)) hgb _
  refine ⟨c2[k], cell_of (e3 B _ (Ne.symm h.off) e2) rfl, cell_of hg3 (by simp [hkc]), frozen_of hg3, Lib.hid ⟨?_, ?_, fun e => h.off (by injection e), hb3.setCell (p := ⟨g, k, none⟩) hgb _, h.baseB, ?_, fun p hp => ?_⟩⟩
  · exact (Below.heap_setCell w3 ⟨g, k, none⟩ _ _ (fun e => h.off e.symm)).trans (e3 B _ (Ne.symm h.off) e2)
  · have hlen : (l.take k ++ t :: l.drop k).length = n + 1 := by simp [hl]; omega
    rw [hlen]
    refine ⟨by unfold ints; rw [List.length_map, hlen]; omega, .inr ⟨g, cp, c2.setIfInBounds k (.int .i64 t), rfl, hgb, set_obj hg3 _, hnc, hcm, by simpa using hc2, ?_⟩⟩
    rw [Nat.mul_one, Array.toList_setIfInBounds, ht2]
    unfold ints
    simp
  · rw [hw3]; simpa using hs2
  · obtain ⟨_, b, c⟩ := h.fs p hp
    exact ⟨(Below.heap_setCell w3 ⟨g, k, none⟩ _ _ (fun e => c e.symm)).trans (e3 p.1 _ (Ne.symm c) (hf2 p hp)), b, fun e => c (by injection e)⟩
set_option maxRecDepth 100000 in
set_option maxHeartbeats 8000000 in
theorem put_any (base B : Nat) (w0 w : World) (fs : List (Nat × Obj)) (l : List Int) (v : Value) (t : Int) (h : LBox base B w0 w fs l v) (hok : TimesOk l) :
    Calls Tryz.prog 74 #[.int .i64 t, .pointer (some ⟨B, 0, none⟩)] w fun e w' => e = .returned (.tuple #[]) ∧ ∃ v', LBox base B w0 w' fs (putT l t) v' := by
  have HX := Lib.hid h
  have hfew := times_few hok
  obtain ⟨n, hn⟩ : ∃ n, n = l.length := ⟨_, rfl⟩
  have HLN : Hid (l.length = n) := Lib.hid hn.symm
  have IT := Lib.hid (fun w => isTime_any t w)
  have hc0 := cell_of h.box (o := 0) rfl
  have hz0 := frozen_of (o := 0) h.box
  have HBS := h.bs
  cases ht : timeOk t
  · have HPT : Hid (putT l t = l) := Lib.hid (by
      unfold putT
      rw [if_neg]
      unfold timeOk at ht
      rw [withinB_no] at ht
      omega)
    rw [ht] at IT
    clear h hok hn ht
    go_enter Tryz.func74, Tryz.ntmps74
    go_wp2_with (go_at_call 30; (with_reducible refine (IT.out _).mono ?_); rintro e w1 ⟨rfl, rfl⟩)
    (try simp only [Exit.inBlock, Exit.then]); refine bodyPost_ret (results_none rfl _ _ _) rfl ?_
    exact ⟨rfl, _, HPT.out ▸ HX.out⟩
  · have hput : putT l t = insT t l := by
      unfold putT
      rw [if_pos]
      unfold timeOk at ht
      rw [withinB_iff] at ht
      omega
    obtain ⟨A, cap, rfl, hA⟩ : ∃ A cap, v = .slice A n cap ∧ ∀ i y, l[i]? = some y → ∃ g, A = some ⟨g, 0, none⟩ ∧ w.cell? ⟨g, i, none⟩ = some (.int .i64 y) := by
      rcases h.row.2 with ⟨rfl, h0⟩ | ⟨g, cap, cur, rfl, _⟩
      · exact ⟨none, 0, by rw [hn, h0], fun i y hy => by have := (List.getElem?_eq_some_iff.1 hy).1; omega⟩
      · refine ⟨_, cap, by rw [hn], fun i y hy => ⟨g, rfl, ?_⟩⟩
        have := h.row.cells (g := g) rfl i (.int .i64 y) (by unfold ints; rw [List.getElem?_map, hy]; rfl)
        have hadd : ∀ j, (⟨g, 0, none⟩ : Addr).add j = ⟨g, j, none⟩ := fun j => by unfold Addr.add; split <;> simp_all
        rwa [hadd] at this
    have HO : Hid (w.ownsRow base 3 1 (.slice A n cap) n (ints l)) := Lib.hid (hn ▸ h.row)
    have HA := Lib.hid hA
    have HP := Lib.hid hput
    rw [ht] at IT
    rw [← hn] at hfew
    clear h hok hn ht hA hput
    go_enter Tryz.func74, Tryz.ntmps74
    go_wp2_with (go_at_call 30; (with_reducible refine (IT.out _).mono ?_); rintro e w1 ⟨rfl, rfl⟩)
    go_loop [3] (fun b3 => ∃ k : Nat, k ≤ n ∧ b3 = .int .i64 k ∧ Hid (∀ i y, i < k → l[i]? = some y → y < t)) (fun b3 => n - (intOf b3).toNat)
    case atStart => exact ⟨0, Nat.zero_le _, rfl, Lib.hid (fun i y hi _ => by omega)⟩
    case round =>
      obtain ⟨k, hk, rfl, hlo⟩ := hrel
      by_cases hlt : k < n
      · obtain ⟨y, hy⟩ : ∃ y, l[k]? = some y := ⟨_, List.getElem?_eq_getElem (by rw [HLN.out]; exact hlt)⟩
        obtain ⟨g0, hAg, hcy⟩ := HA.out k y hy
        subst hAg
        have HY := Lib.hid hy
        clear hy
        have hkn : ((k : Int) == (n : Int)) = false := by rw [beq_eq_false_iff_ne]; omega
        rcases Int.lt_trichotomy y t with hyt | hyt | hyt
        · have d1 : decide (y < t) = true := decide_eq_true hyt
          have HLO : Hid (∀ i y, i < k + 1 → l[i]? = some y → y < t) := Lib.hid (fun i z hi hz => by
            by_cases e : i = k
            · subst e; rw [HY.out] at hz; injection hz with hz; omega
            · exact hlo.out i z (by omega) hz)
          clear hlo
          go_wp2
          go_round
          case rel => exact ⟨k + 1, by omega, by go_num, HLO⟩
          case measure => simp [intOf]; omega
        · have d1 : decide (y < t) = false := decide_eq_false (by omega)
          have d2 : (y != t) = false := by simpa using hyt
          have HPT : Hid (putT l t = l) := Lib.hid (HP.out.trans (insT_has hlo.out (hyt ▸ HY.out)))
          clear hlo
          go_wp2
          go_end0
          exact ⟨rfl, _, HPT.out ▸ HX.out⟩
        · have d1 : decide (y < t) = false := decide_eq_false (by omega)
          have d2 : (y != t) = true := by simp; omega
          have HPT : Hid (putT l t = l.take k ++ t :: l.drop k) := Lib.hid (HP.out.trans (insT_put (by rw [HLN.out]; exact hk) hlo.out (fun z hz => by rw [HY.out] at hz; injection hz with hz; omega)))
          clear hlo HP HA
          have hown := HO.out
          go_wp2_with (at_builtin; go_must (refine wpList_app2 rfl _ _ 71 rfl base 3 (.int .i64 0) 1 8 Tryz.underlying71 infoInt rfl (by decide) _ n _ rfl (hown.alloc (.cells #[.int .i64 0] 3)) ⟨w.heap.size, 0, none⟩ 1 1 [.int .i64 0] rfl rfl (laid_at (cs := #[.int .i64 0])) (by intro u hu; simp at hu; rcases hu with rfl; rfl) (by unfold maxLen; omega) (by omega) (by simp; omega) ?_); intro v' w1 hown1 hg1 hn1; obtain ⟨g, cp, rfl, HG1⟩ := put_row (HX.out) hown1 hg1 hn1 (by omega); obtain ⟨b0, b1⟩ := HG1.out.boxed; clear hown1 hg1 hn1)
          obtain ⟨w2, hw2⟩ : ∃ w2 : World, w2 = w1.setCell ⟨B, 0, none⟩ (.slice (some ⟨g, 0, none⟩) (n + 1) cp) := ⟨_, rfl⟩
          rw [← hw2]
          obtain ⟨cur, s0, s1, s2, s3, s4, s5, HG2⟩ := HG1.out.stored (k := k) (t := t) HLN.out hw2 hk
          clear HG1 hw2 hown b0 b1
          refine copy_reg B g n k cp cur (ints l) (.int .i64 0) (.int .i64 t) w2 _ _ _ _ _ _ _ _ _ _ _ _ _ _ _ _ _ _ _ _ _ _ _ _ _ _ _ _ _ _ _ _ _ _ _ _ _ _ _ _ _ _ _ _ _ _ _ s0 s1 s2 (by unfold ints; rw [List.length_map]; exact HLN.out) s3 hk s4 s5 (ints_one l) ?_
          intro q c2 u36 u37 u38 u39 u40 u41 u42 u43 hc2 ht2
          obtain ⟨w3, hw3⟩ : ∃ w3 : World, w3 = (w2.drewN q).setRow g c2 := ⟨_, rfl⟩
          rw [← hw3]
          obtain ⟨x, r0, r1, r2, HFIN⟩ := HG2.out q c2 w3 hc2 ht2 hw3
          clear HG2 hw3 ht2 s0 s1
          go_wp2
          go_end0
          exact ⟨rfl, _, HPT.out ▸ HFIN.out⟩
      · have hkn : k = n := by omega
        have hkb : ((k : Int) == (n : Int)) = true := by rw [beq_iff_eq]; omega
        have d3 : decide ((k : Int) < (n : Int)) = false := decide_eq_false (by omega)
        have HPT : Hid (putT l t = l.take k ++ t :: l.drop k) := Lib.hid (HP.out.trans (insT_put (by rw [HLN.out]; exact hk) hlo.out (fun z hz => by have := (List.getElem?_eq_some_iff.1 hz).1; rw [HLN.out] at this; omega)))
        clear hlo HP HA hkn
        have hown := HO.out
        go_wp2_with (at_builtin; go_must (refine wpList_app2 rfl _ _ 71 rfl base 3 (.int .i64 0) 1 8 Tryz.underlying71 infoInt rfl (by decide) _ n _ rfl (hown.alloc (.cells #[.int .i64 0] 3)) ⟨w.heap.size, 0, none⟩ 1 1 [.int .i64 0] rfl rfl (laid_at (cs := #[.int .i64 0])) (by intro u hu; simp at hu; rcases hu with rfl; rfl) (by unfold maxLen; omega) (by omega) (by simp; omega) ?_); intro v' w1 hown1 hg1 hn1; obtain ⟨g, cp, rfl, HG1⟩ := put_row (HX.out) hown1 hg1 hn1 (by omega); obtain ⟨b0, b1⟩ := HG1.out.boxed; clear hown1 hg1 hn1)
        obtain ⟨w2, hw2⟩ : ∃ w2 : World, w2 = w1.setCell ⟨B, 0, none⟩ (.slice (some ⟨g, 0, none⟩) (n + 1) cp) := ⟨_, rfl⟩
        rw [← hw2]
        obtain ⟨cur, s0, s1, s2, s3, s4, s5, HG2⟩ := HG1.out.stored (k := k) (t := t) HLN.out hw2 hk
        clear HG1 hw2 hown b0 b1
        refine copy_reg B g n k cp cur (ints l) (.int .i64 0) (.int .i64 t) w2 _ _ _ _ _ _ _ _ _ _ _ _ _ _ _ _ _ _ _ _ _ _ _ _ _ _ _ _ _ _ _ _ _ _ _ _ _ _ _ _ _ _ _ _ _ _ _ s0 s1 s2 (by unfold ints; rw [List.length_map]; exact HLN.out) s3 hk s4 s5 (ints_one l) ?_
        intro q c2 u36 u37 u38 u39 u40 u41 u42 u43 hc2 ht2
        obtain ⟨w3, hw3⟩ : ∃ w3 : World, w3 = (w2.drewN q).setRow g c2 := ⟨_, rfl⟩
        rw [← hw3]
        obtain ⟨x, r0, r1, r2, HFIN⟩ := HG2.out q c2 w3 hc2 ht2 hw3
        clear HG2 hw3 ht2 s0 s1
        go_wp2
        go_end0
        exact ⟨rfl, _, HPT.out ▸ HFIN.out⟩
end Go.Proofs.YtlngalmdidaahaaGreatDoor

/- gnomonref.times. -/
set_option linter.unusedVariables false
namespace Go.Proofs.YtlngalmdidaahaaGreatDoor
open Go.RowKit Gno
theorem LBox.alloc {base B : Nat} {w0 w : World} {fs : List (Nat × Obj)} {l : List Int} {v : Value} (h : LBox base B w0 w fs l v) (o : Obj) : LBox base B w0 (w.alloc o) ((w.heap.size, o) :: fs) l v := by
  have hB := (Array.getElem?_eq_some_iff.1 h.box).1
  refine ⟨heap_alloc_keep h.box, h.row.alloc o, h.off, h.below.alloc h.bs _, h.baseB, by simp; have := h.bs; omega, fun p hp => ?_⟩
  rcases List.mem_cons.1 hp with rfl | hp
  · refine ⟨World.alloc_heap_new w o, by show w.heap.size ≠ B; omega, fun e => ?_⟩
    have := (h.row.lt _ e).2
    simp at this
  · obtain ⟨a, b, c⟩ := h.fs p hp
    exact ⟨heap_alloc_keep a, b, c⟩
theorem LBox.fewer {base B : Nat} {w0 w : World} {fs gs : List (Nat × Obj)} {l : List Int} {v : Value} (h : LBox base B w0 w fs l v) (hs : ∀ p ∈ gs, p ∈ fs) : LBox base B w0 w gs l v :=
  ⟨h.box, h.row, h.off, h.below, h.baseB, h.bs, fun p hp => h.fs p (hs p hp)⟩
theorem LBox.kept {base B : Nat} {w0 w W : World} {fs : List (Nat × Obj)} {l : List Int} {v : Value} (h : LBox base B w0 w fs l v) (hb : Below w.heap.size w W) : LBox base B w0 W fs l v := by
  have hB := (Array.getElem?_eq_some_iff.1 h.box).1
  refine ⟨heap_below_keep h.box hb, own_of_below h.row hb (Nat.le_refl _), h.off, h.below.trans (hb.mono h.bs), h.baseB, by have := hb.size; have := h.bs; omega, fun p hp => ?_⟩
  obtain ⟨a, b, c⟩ := h.fs p hp
  exact ⟨heap_below_keep a hb, b, c⟩
abbrev eraO (x : Er) : Obj := .cells #[.int .i64 x.std, .int .i64 x.set, .int .i64 x.save, .string x.fmt, .int .i64 x.til] 46
abbrev ruleO (r : Rl) : Obj := .cells #[.int .i64 r.fy, .int .i64 r.ty, .int .i64 r.mo, .int .i64 r.k, .int .i64 r.wk, .int .i64 r.d, .int .i64 r.a, .int .i64 r.sv, .string r.le] 53
theorem puts_stepS {rs : List Rl} {std : Int} {l : List Int} {i : Nat} {r : Rl} (h : rs[i]? = some r) : putsS rs std l (i + 1) = putsY r std (putsS rs std l i) (yearsN r) := by
  show (match rs[i]? with | some r => putsY r std (putsS rs std l i) (yearsN r) | none => putsS rs std l i) = _
  rw [h]
theorem putsX_no {d : Dt} {x : Er} {l : List Int} (h : x.set < 0) : putsX d x l = l := by unfold putsX; rw [if_pos h]
theorem putsX_set {d : Dt} {x : Er} {l : List Int} {s : St} (h : ¬ x.set < 0) (hs : d.ss[x.set.toNat]? = some s) : putsX d x l = putsS s.rs x.std l s.rs.length := by unfold putsX; rw [if_neg h, hs]
set_option maxRecDepth 100000 in
set_option maxHeartbeats 16000000 in
theorem times_any (d : Dt) (zone : Int) (z : Zn) (w : World) (hD : DataAt w w.heap.size d) (hd0 : dataE d = 0) (hk0 : 0 ≤ zone) (hzq : d.zs[zone.toNat]? = some z) :
    Calls Tryz.prog 38 #[d.val, .int .i64 zone] w fun e w' => ∃ v, e = .returned v ∧ w'.ownsRow (w.heap.size + 1) 3 1 v (timesZ d z).length (ints (timesZ d z)) ∧ Below w.heap.size w w' := by
  have hmf : ∀ (fn : Fn) (first cap : Array Value) (w : World), (Instr.makeFunc fn first cap).run Tryz.prog w = .ok (.func fn first cap) w := fun _ _ _ _ => rfl
  have eg : ∀ args w, (callFunc 74 args).run Tryz.prog w = .ok (.enter 74 args) w := enters_of Tryz.func74 (by kernel_rfl) rfl
  have HN := Lib.hid (fun W (hb : Below (w.heap.size + 1) (w.alloc (Dobj d)) W) => box_next (d := d) (w := w) (W := W) hD hb)
  have hzl := (List.getElem?_eq_some_iff.1 hzq).1
  have hzn := hD.2.1.1
  have hk1 : zone < (d.zn : Int) := by omega
  have hr := rightE_of hd0
  have hzm := List.mem_of_getElem? hzq
  have hef := eras_few hd0 hzm
  obtain ⟨b, o, q, hA, hbB, hq, hq1, hq2⟩ := zones_get hD.2.1 (i := zone.toNat) (by omega)
  rw [hzq] at hq
  injection hq with hq
  subst hq
  have HTZ : Hid (timesZ d z = putsE d z.es z.n) := Lib.hid (by
    have := (hq2 w (Below.refl _ _)).2.1
    unfold timesZ; rw [this])
  obtain ⟨qn, A2, n2, cap2, es2⟩ := z
  have hE := (hq2 w (Below.refl _ _)).2
  have hEl : es2.length = n2 := hE.1
  replace hef : n2 ≤ 4 := hef
  replace HTZ : Hid (timesZ d ⟨qn, A2, n2, cap2, es2⟩ = putsE d es2 n2) := HTZ
  have hpos : 0 < n2 := by
    rcases Nat.eq_zero_or_pos n2 with e | e
    · have he := hr.ends _ hzm
      have : es2.length = 0 := hEl.trans e
      have he : aheadOf es2 es2.length = 1893456000 := he
      rw [this] at he
      simp [aheadOf] at he
    · exact e
  obtain ⟨b2, o2, _, hA2, _, _, _, _⟩ := eras_get hE (i := 0) hpos
  have hA2' : A2 = some ⟨b2, o2, none⟩ := hA2
  clear hA2
  subst hA2'
  have HER : Hid (∀ j, j < n2 → ∃ x, es2[j]? = some x ∧ ((-50400 ≤ x.std ∧ x.std ≤ 50400) ∧ (-1 ≤ x.set ∧ x.set < d.sn)) ∧ ∀ W, Below (w.heap.size + 1) (w.alloc (Dobj d)) W → ErAt W b2 (o2 + j * 5) x) := Lib.hid (fun j hj => by
    obtain ⟨b3, o3, y, hA3, _, hy, _, hc⟩ := eras_get hE hj
    injection hA3 with hA3
    injection hA3 with e1 e2 _
    subst e1
    subst e2
    have h1 := eraOk_is (hr.eras _ hzm j y hy)
    exact ⟨y, hy, ⟨h1.1, h1.2.1⟩, fun W h => hc W (HN.out W h).1⟩)
  have HSET : Hid (∀ x : Er, ¬ x.set < 0 → x.set < d.sn → ∃ b5 o5 s, d.sA = some ⟨b5, o5, none⟩ ∧ d.ss[x.set.toNat]? = some s ∧ s.n ≤ 4 ∧ (∀ r ∈ s.rs, r.e = 0) ∧ s.rs.length = s.n ∧ ∀ W, Below (w.heap.size + 1) (w.alloc (Dobj d)) W → W.cell? ⟨b5, o5 + x.set.toNat * 2 + 1, none⟩ = some (.slice s.A s.n s.cap) ∧ RulesAt W W.heap.size s.A s.n s.rs) := Lib.hid (fun x h0 h1 => by
    obtain ⟨b5, o5, s, e1, e2, e3, e4, e5⟩ := sets_get hD.1 (i := x.set.toNat) (by omega)
    exact ⟨b5, o5, s, e1, e3, rules_few hd0 (List.mem_of_getElem? e3), hr.rules s (List.mem_of_getElem? e3), (e5 w (Below.refl _ _)).2.1, fun W h => by
      have h1 := (HN.out W h).1
      exact ⟨(e5 W h1).1.2, ((e5 W h1).2).more (by have := h1.size; omega)⟩⟩)
  have HDC : Hid (∀ W, Below (w.heap.size + 1) (w.alloc (Dobj d)) W → (W.cell? ⟨w.heap.size, 0, none⟩ = some (.slice d.sA d.sn d.sc) ∧ W.cell? ⟨w.heap.size, 1, none⟩ = some (.slice (some ⟨b, o, none⟩) d.zn d.zc) ∧ W.cell? ⟨w.heap.size, 2, none⟩ = some (.slice d.lA d.ln d.lc))) := Lib.hid (fun W h => by
    have h1 := HN.out W h
    exact ⟨h1.2.2.1, hA ▸ h1.2.2.2.1, h1.2.2.2.2⟩)
  have HZC : Hid (∀ W, Below (w.heap.size + 1) (w.alloc (Dobj d)) W → W.cell? ⟨b, o + zone.toNat * 2 + 1, none⟩ = some (.slice (some ⟨b2, o2, none⟩) n2 cap2)) := Lib.hid (fun W h => (hq2 W (HN.out W h).1).1.2)
  have HPUT : Hid (∀ W fs l v t, LBox (w.heap.size + 1) (w.heap.size + 1) (w.alloc (Dobj d)) W fs l v → TimesOk l → Calls Tryz.prog 74 #[.int .i64 t, .pointer (some ⟨w.heap.size + 1, 0, none⟩)] W fun e w' => e = .returned (.tuple #[]) ∧ ∃ v', LBox (w.heap.size + 1) (w.heap.size + 1) (w.alloc (Dobj d)) w' fs (putT l t) v') := Lib.hid (fun W fs l v t h1 h2 => put_any _ _ _ W fs l v t h1 h2)
  have HL0 : Hid (LBox (w.heap.size + 1) (w.heap.size + 1) (w.alloc (Dobj d)) ((w.alloc (Dobj d)).alloc (.cells #[.slice none 0 0] 71)) [] [] (.slice none 0 0)) := Lib.hid ⟨push_at _ _ _ (by simp), World.ownsRow_nil _ _ _ _, fun e => (by simp [Value.ownBlock] at e), (Below.refl _ _).alloc (by simp) _, Nat.le_refl _, by simp, fun p hp => (by cases hp)⟩
  clear hD hd0 hzl hzn hr hzm hA hbB hq1 hq2 hE hEl hzq
  unfold Dt.val
  go_enter Tryz.func38, Tryz.ntmps38
  go_wp2_with fail
  refine (HPUT.out _ [] [] _ 0 HL0.out ⟨List.Pairwise.nil, fun n hn => by cases hn⟩).mono ?_
  rintro e w1 ⟨rfl, v1, hv1⟩
  have HV1 := Lib.hid hv1
  obtain ⟨SA, hSA⟩ : ∃ v, v = d.sA := ⟨_, rfl⟩
  rw [← hSA] at HSET HDC
  rw [← hSA]
  clear hSA hv1 HL0
  go_wp2_with fail
  go_loopw [7] (fun b7 wr => ∃ (i : Nat) (v : Value), i ≤ n2 ∧ b7 = .int .i64 i ∧ Hid (LBox (w.heap.size + 1) (w.heap.size + 1) (w.alloc (Dobj d)) wr [] (putsE d es2 i) v)) (fun b7 _ => n2 - (intOf b7).toNat)
  case atStart => exact ⟨0, v1, Nat.zero_le _, rfl, HV1⟩
  case round =>
    clear HV1
    obtain ⟨i, v, hi, rfl, hL⟩ := hrel
    obtain ⟨c0, c1, c2⟩ := HDC.out _ hL.out.below
    have c3 := HZC.out _ hL.out.below
    by_cases hit : i < n2
    · obtain ⟨x, hx, ⟨hx1, hx2⟩, hxc⟩ := HER.out i hit
      obtain ⟨x0, x1, x2, x3, x4⟩ := hxc _ hL.out.below
      have HPE : Hid (putsE d es2 (i + 1) = putsX d x (putT (putsE d es2 i) x.til)) := Lib.hid (putsE_step hx)
      have HLX := Lib.hid (hL.out.alloc (eraO x))
      obtain ⟨xb, hxb⟩ : ∃ xb, xb = wr.heap.size := ⟨_, rfl⟩
      have hfx : ∀ W fs l v, LBox (w.heap.size + 1) (w.heap.size + 1) (w.alloc (Dobj d)) W fs l v → (xb, eraO x) ∈ fs → (W.cell? ⟨xb, 0, none⟩ = some (.int .i64 x.std) ∧ W.cell? ⟨xb, 1, none⟩ = some (.int .i64 x.set) ∧ W.cell? ⟨xb, 4, none⟩ = some (.int .i64 x.til)) := fun W fs l v h hm => by
        have k := (h.fs _ hm).1
        exact ⟨cell_of k rfl, cell_of k rfl, cell_of k rfl⟩
      have HFX := Lib.hid hfx
      rw [← hxb] at HLX
      clear hx hxc hfx
      go_wp2_with fail
      rw [← hxb]
      refine (HPUT.out _ _ _ _ x.til HLX.out (putsE_ok i)).mono ?_
      rintro e w2 ⟨rfl, v2, hv2⟩
      have HV2 := Lib.hid hv2
      have HOK : Hid (TimesOk (putT (putsE d es2 i) x.til)) := Lib.hid (putT_ok (putsE_ok i))
      obtain ⟨L0, hL0⟩ : ∃ L0, L0 = putT (putsE d es2 i) x.til := ⟨_, rfl⟩
      rw [← hL0] at HV2 HOK HPE
      clear hL0 hv2 HLX hxb c0 c1 c2 c3 x0 x1 x2 x3 x4 hL
      clear v
      obtain ⟨c0, c1, c2⟩ := HDC.out _ HV2.out.below
      obtain ⟨f0, f1, f4⟩ := HFX.out _ _ _ _ HV2.out (by simp)
      by_cases hs : x.set < 0
      · have gs : decide ((0 : Int) ≤ x.set) = false := decide_eq_false (by omega)
        have HFIN : Hid (LBox (w.heap.size + 1) (w.heap.size + 1) (w.alloc (Dobj d)) w2 [] (putsE d es2 (i + 1)) v2) := Lib.hid (by
          rw [HPE.out, putsX_no hs]
          exact HV2.out.fewer (fun p hp => by cases hp))
        go_wp2
        refine wp_loop_rounds 1 ?_
        rw [rounds_succ]
        go_wp2
        go_roundw
        case rel => exact ⟨i + 1, v2, by omega, by go_num, HFIN⟩
        case measure => simp [intOf]; omega
      · have gs : decide ((0 : Int) ≤ x.set) = true := decide_eq_true (by omega)
        obtain ⟨b5, o5, s, hsA, hss, hsn, hsr, hsl, hsc⟩ := HSET.out x (by omega) hx2.2
        subst hsA
        have HPX : Hid (putsE d es2 (i + 1) = putsS s.rs x.std L0 s.n) := Lib.hid (by rw [HPE.out, putsX_set hs hss, hsl])
        have HSC := Lib.hid hsc
        have HSR := Lib.hid hsr
        have HSL := Lib.hid hsl
        have hs0 : 0 ≤ x.set := by omega
        have hs1 : x.set < (d.sn : Int) := hx2.2
        clear hss hsc hsr hsl
        go_wp2
        go_loopw [9] (fun b9 wr => ∃ (k : Nat) (v : Value), k ≤ s.n ∧ b9 = .int .i64 k ∧ Hid (LBox (w.heap.size + 1) (w.heap.size + 1) (w.alloc (Dobj d)) wr [(xb, eraO x)] (putsS s.rs x.std L0 k) v)) (fun b9 _ => s.n - (intOf b9).toNat)
        case atStart => exact ⟨0, v2, Nat.zero_le _, rfl, HV2⟩
        case round =>
          clear HV2
          obtain ⟨k, v, hk, rfl, hL⟩ := hrel
          obtain ⟨c0, c1, c2⟩ := HDC.out _ hL.out.below
          obtain ⟨f0, f1, f4⟩ := HFX.out _ _ _ _ hL.out (by simp)
          obtain ⟨d0, hRA⟩ := HSC.out _ hL.out.below
          by_cases hkt : k < s.n
          · obtain ⟨b6, o6, r, hA6, _, hr, _, hrc⟩ := RulesAt.get hRA hkt
            obtain ⟨r0, r1, r2, r3, r4, r5, r6, r7, r8⟩ := hrc wr (Below.refl _ _)
            rw [hA6] at d0
            have hre := HSR.out r (List.mem_of_getElem? hr)
            obtain ⟨hB, ho, hLt, hY⟩ := ruleE_zero hre
            obtain ⟨p1, p2, p3, _, ⟨p6, p7⟩, _⟩ := (ruleBasic_iff _ _ _ _ _).1 hB
            have BG : Hid (∀ y, r.fy ≤ y → y ≤ r.ty → ∀ w, Calls Tryz.prog 75 #[.agg #[.int .i64 r.fy, .int .i64 r.ty, .int .i64 r.mo, .int .i64 r.k, .int .i64 r.wk, .int .i64 r.d, .int .i64 r.a, .int .i64 r.sv, .string r.le], .int .i64 y, .int .i64 x.std] w fun e w' => e = .returned (.int .i64 (r.g x.std y)) ∧ Below w.heap.size w w') := Lib.hid (fun y (h1 : r.fy ≤ y) (h2 : y ≤ r.ty) w => begins9_any r.fy r.ty r.mo r.k r.wk r.d r.a r.sv y x.std r.le w (hY y h1 h2) p6 p7 hx1.1 hx1.2)
            have hfy : 1970 ≤ r.fy := by omega
            have hty : r.ty ≤ 2029 := by omega
            have HPS : Hid (putsS s.rs x.std L0 (k + 1) = putsY r x.std (putsS s.rs x.std L0 k) (yearsN r)) := Lib.hid (puts_stepS hr)
            have HLR := Lib.hid (hL.out.alloc (ruleO r))
            have HOK2 : Hid (∀ m, TimesOk (putsY r x.std (putsS s.rs x.std L0 k) m)) := Lib.hid (fun m => putsY_ok (putsS_ok HOK.out k) m)
            have HPY : Hid (∀ m : Nat, putT (putsY r x.std (putsS s.rs x.std L0 k) m) (r.g x.std (r.fy + m)) = putsY r x.std (putsS s.rs x.std L0 k) (m + 1)) := Lib.hid (fun m => rfl)
            have HFR : Hid (∀ W fs l v, LBox (w.heap.size + 1) (w.heap.size + 1) (w.alloc (Dobj d)) W fs l v → (wr.heap.size, ruleO r) ∈ fs → RuleAt W wr.heap.size 0 r) := Lib.hid (fun W fs l v h hm => by
              have k := (h.fs _ hm).1
              exact ⟨cell_of k rfl, cell_of k rfl, cell_of k rfl, cell_of k rfl, cell_of k rfl, cell_of k rfl, cell_of k rfl, cell_of k rfl, cell_of k rfl⟩)
            obtain ⟨L1, hL1⟩ : ∃ L1, L1 = putsS s.rs x.std L0 k := ⟨_, rfl⟩
            rw [← hL1] at HPS HLR HOK2 HPY
            obtain ⟨N, hN⟩ : ∃ N, N = yearsN r := ⟨_, rfl⟩
            rw [← hN] at HPS
            have hN1 : (N : Int) = max 0 (r.ty - r.fy + 1) := by rw [hN]; unfold yearsN; omega
            clear hL1 hN hrc hr hre hB ho hLt hY p6 p7 hRA hL
            go_wp2_with fail
            obtain ⟨rb, hrb⟩ : ∃ rb, rb = wr.heap.size := ⟨_, rfl⟩
            rw [← hrb] at HLR HFR
            rw [← hrb]
            clear hrb r0 r1 r2 r3 r4 r5 r6 r7 r8 c0 c1 c2 f0 f1 f4 d0
            go_loopw [11] (fun b11 wr3 => ∃ (m : Nat) (v : Value), m ≤ N ∧ b11 = .int .i64 (r.fy + m) ∧ Hid (LBox (w.heap.size + 1) (w.heap.size + 1) (w.alloc (Dobj d)) wr3 [(rb, ruleO r), (xb, eraO x)] (putsY r x.std L1 m) v)) (fun b11 _ => (r.fy + N - intOf b11).toNat)
            case atStart => exact ⟨0, v, Nat.zero_le _, by simp, HLR⟩
            case round =>
              clear HLR
              clear v
              obtain ⟨m, v, hm, rfl, hL⟩ := hrel
              obtain ⟨r0, r1, r2, r3, r4, r5, r6, r7, r8⟩ := HFR.out _ _ _ _ hL.out (by simp)
              obtain ⟨f0, f1, f4⟩ := HFX.out _ _ _ _ hL.out (by simp)
              simp only [Nat.zero_add] at r1 r2 r3 r4 r5 r6 r7 r8
              obtain ⟨y, hy⟩ : ∃ y : Int, y = r.fy + m := ⟨_, rfl⟩
              rw [← hy]
              have HPM := Lib.hid (HPY.out m)
              rw [← hy] at HPM
              by_cases hyt : y ≤ r.ty
              · have BGY := Lib.hid (BG.out y (by omega) hyt wr)
                obtain ⟨G, hG⟩ : ∃ G, G = r.g x.std y := ⟨_, rfl⟩
                rw [← hG] at BGY HPM
                have hy1 : y + 1 = r.fy + ((m + 1 : Nat) : Int) := by omega
                have hmN : m + 1 ≤ N := by omega
                have HY1 := Lib.hid hy1
                have hyb : 1970 ≤ y := by omega
                have hyb2 : y ≤ 2029 := by omega
                have hms : (r.fy + (N : Int) - (y + 1)).toNat < (r.fy + (N : Int) - y).toNat := by omega
                clear hG hy hy1
                go_wp2_with fail
                refine BGY.out.mono ?_
                rintro e w3 ⟨rfl, hw3⟩
                have HL3 := Lib.hid (hL.out.kept hw3)
                clear hw3 r0 r1 r2 r3 r4 r5 r6 r7 r8 f0 f1 f4
                go_wp2_with fail
                refine (HPUT.out _ _ _ _ G HL3.out (HOK2.out m)).mono ?_
                rintro e w4 ⟨rfl, v4, hv4⟩
                have HV4 : Hid (LBox (w.heap.size + 1) (w.heap.size + 1) (w.alloc (Dobj d)) w4 [(rb, ruleO r), (xb, eraO x)] (putsY r x.std L1 (m + 1)) v4) := Lib.hid (HPM.out ▸ hv4)
                clear hv4
                go_wp2
                go_roundw
                case rel => exact ⟨m + 1, v4, hmN, by rw [HY1.out], HV4⟩
                case measure => simp [intOf]; omega
              · have hmN : m = N := by omega
                have HFIN : Hid (LBox (w.heap.size + 1) (w.heap.size + 1) (w.alloc (Dobj d)) wr [(xb, eraO x)] (putsS s.rs x.std L0 (k + 1)) v) := Lib.hid (by
                  rw [HPS.out, ← hmN]
                  exact hL.out.fewer (fun p hp => List.mem_cons_of_mem _ hp))
                clear hmN hy
                go_wp2
                go_roundw
                case rel => exact ⟨k + 1, v, by omega, by go_num, HFIN⟩
                case measure => simp [intOf]; omega
          · have hks : k = s.n := by omega
            have HFIN : Hid (LBox (w.heap.size + 1) (w.heap.size + 1) (w.alloc (Dobj d)) wr [] (putsE d es2 (i + 1)) v) := Lib.hid (by
              rw [HPX.out, ← hks]
              exact hL.out.fewer (fun p hp => by cases hp))
            clear hks
            go_wp2
            go_roundw
            case rel => exact ⟨i + 1, v, by omega, by go_num, HFIN⟩
            case measure => simp [intOf]; omega
    · have hin : i = n2 := by omega
      have HRW : Hid (wr.ownsRow (w.heap.size + 1) 3 1 v (timesZ d ⟨qn, some ⟨b2, o2, none⟩, n2, cap2, es2⟩).length (ints (timesZ d ⟨qn, some ⟨b2, o2, none⟩, n2, cap2, es2⟩))) := Lib.hid (by
        rw [HTZ.out, ← hin]; exact hL.out.row)
      have HBL := Lib.hid (HN.out _ hL.out.below).1
      have hb0 := cell_of hL.out.box (o := 0) rfl
      clear hin
      go_wp2
      go_ret
      exact ⟨_, rfl, HRW.out, HBL.out⟩
end Go.Proofs.YtlngalmdidaahaaGreatDoor
