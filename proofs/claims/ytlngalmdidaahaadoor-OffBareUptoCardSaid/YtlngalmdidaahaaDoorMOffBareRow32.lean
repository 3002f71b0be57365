/- Parts of a proof, laid together. -/
import Derived.Deep.RegionHeld3
import Derived.BigRegion
import Derived.Test.YtlngalmdidaahaaDoorMOffBareRow31
import Derived.Test.YtlngalmdidaahaaDoorMOffBareRow29
set_option linter.unusedSimpArgs false
set_option linter.unusedVariables false
/-! Plain: in an era without a set the same holds from its beginning to its end. -/
section
set_option linter.unusedVariables false
namespace Gno
open Go
/-- the eras' ends rise. -/
theorem RightE.rise {d : Dt} (h : RightE d) {z : Zn} (hz : z ∈ d.zs) : ∀ (j i : Nat) (x y : Er), z.es[i]? = some x → z.es[j]? = some y → i < j → x.til < y.til
  | 0, i, x, y, _, _, hij => by omega
  | j + 1, i, x, y, hx, hy, hij => by
    have hj : j < z.es.length := by have := (List.getElem?_eq_some_iff.1 hy).1; omega
    have hq := List.getElem?_eq_getElem hj
    have h1 := (eraOk_is (h.eras z hz _ y hy)).2.2.2.2
    have e : aheadOf z.es (j + 1) = z.es[j].til := by simp only [aheadOf]; rw [hq]
    rw [e] at h1
    by_cases hi : i = j
    · subst hi
      rw [hq] at hx
      injection hx with hx
      rw [← hx]; exact h1
    · have := RightE.rise h hz j i x _ hx hq (by omega)
      omega
theorem RightE.pos {d : Dt} (h : RightE d) {z : Zn} (hz : z ∈ d.zs) {i : Nat} {x : Er} (hx : z.es[i]? = some x) : 0 < x.til ∧ x.til ≤ 1893456000 ∧ 0 ≤ aheadOf z.es i ∧ aheadOf z.es i < x.til := by
  have hi := (List.getElem?_eq_some_iff.1 hx).1
  have h0 := List.getElem?_eq_getElem (l := z.es) (i := 0) (by omega)
  have a0 := (eraOk_is (h.eras z hz 0 _ h0)).2.2.2.2
  have a0 : 0 < (z.es[0]'(by omega)).til := a0
  have ax := (eraOk_is (h.eras z hz i x hx)).2.2.2.2
  have hah : 0 ≤ aheadOf z.es i := by
    cases i with
    | zero => exact Int.le_refl _
    | succ j =>
      have hq := List.getElem?_eq_getElem (l := z.es) (i := j) (by omega)
      have e : aheadOf z.es (j + 1) = (z.es[j]'(by omega)).til := by simp only [aheadOf]; rw [hq]
      rw [e]
      by_cases hj : j = 0
      · subst hj; omega
      · have := h.rise hz j 0 _ _ h0 hq (by omega)
        omega
  obtain ⟨y, hy, hye⟩ := ahead_last (es := z.es) (by omega)
  have he := h.ends z hz
  rw [hye] at he
  have hle : x.til ≤ y.til := by
    by_cases hl : i = z.es.length - 1
    · subst hl
      rw [hy] at hx
      injection hx with hx
      rw [hx]; exact Int.le_refl _
    · have := h.rise hz (z.es.length - 1) i x y hx hy (by omega)
      omega
  exact ⟨by omega, by omega, hah, ax⟩
/-- which era holds at a time within it. -/
theorem RightE.within {d : Dt} (h : RightE d) {z : Zn} (hz : z ∈ d.zs) {i : Nat} {x : Er} (hx : z.es[i]? = some x) {t : Int} (h1 : aheadOf z.es i ≤ t) (h2 : t < x.til) : eraOf z t = x := by
  have hk : eraK z.es t = i := by
    have := fst_at (p := til t) z.es 0 i (fun j y hj hy => by
      unfold til
      rw [decide_eq_false_iff_not]
      cases i with
      | zero => omega
      | succ m =>
        have hm : m < z.es.length := by have := (List.getElem?_eq_some_iff.1 hx).1; omega
        have hq := List.getElem?_eq_getElem hm
        have e : aheadOf z.es (m + 1) = z.es[m].til := by simp only [aheadOf]; rw [hq]
        rw [e] at h1
        by_cases hjm : j = m
        · subst hjm
          rw [hq] at hy
          injection hy with hy
          rw [← hy]; omega
        · have := h.rise hz m j y _ hy hq (by omega)
          omega) ⟨x, hx, by unfold til; simpa using h2⟩
    unfold eraK
    rw [this]; simp
  exact eraOf_is (by rw [hk]; simpa using hx)
/-- what holds there: the era's own. -/
theorem bare_at {d : Dt} (hd : dataE d = 0) {k : Nat} {z : Zn} (hz : d.zs[k]? = some z) {i : Nat} {x : Er} (hx : z.es[i]? = some x) (hs : x.set < 0) {t : Int} (h1 : aheadOf z.es i ≤ t) (h2 : t < x.til) :
    oaE d z.name t = 0 ∧ oaTo d z.name t = x.std + x.save ∧ oaSv d z.name t = x.save ∧ oaAb d z.name t = repl x.fmt ⟨#[]⟩ := by
  have hr := rightE_of hd
  have hzm := List.mem_of_getElem? hz
  have hp := hr.pos hzm hx
  have hln : leadN d z.name = k := hr.toRight.leadZone hz
  have hz2 := zone_is (nm := z.name) hd (by omega)
  have hE : oaE d z.name t = 0 := by unfold oaE; rw [if_neg (by simp [hz2.2]), if_neg (by omega)]
  obtain ⟨f1, f2, f3⟩ := at_good (nm := z.name) (t := t) hE (z := z) (by rw [hz2.1, hln, Int.toNat_natCast]; exact hz)
  rw [hr.within hzm hx h1 h2] at f1 f2 f3
  obtain ⟨q1, q2⟩ := off_none (offR_none (d := d) (t := t) hs)
  refine ⟨hE, ?_, by rw [f2, q1], ?_⟩
  · rw [f1]; unfold offTo; rw [q1]
  · rw [f3]; unfold offAb; rw [q2]
/-- a zone of right data has few eras. -/
theorem eras_few {d : Dt} (h : dataE d = 0) {z : Zn} (hz : z ∈ d.zs) : z.n ≤ 4 := by
  have h0 : manyD d = false := (right_of h).many
  have h1 : dE1 d = 0 := by unfold dataE at h; rwa [if_neg (by rw [h0]; simp)] at h
  have h2 : dE2 d = 0 := by
    unfold dE1 at h1; split at h1
    · exact absurd h1 (by decide)
    · exact h1
  have h3 : anyI (fun _ => manyEras) d.zs = false := by
    cases e : anyI (fun _ => manyEras) d.zs
    · rfl
    · unfold dE2 at h2; rw [if_pos e] at h2; exact absurd h2 (by decide)
  rw [anyI_any, List.any_eq_false] at h3
  have := h3 z hz
  unfold manyEras at this
  simp at this
  omega
end Gno
end
/-! What must be in any case of what holds. -/
section
set_option linter.unusedVariables false
namespace Go.Proofs.YtlngalmdidaahaaDoor
open Go.RowKit Gno
theorem eu_at (W : World) (nm : ByteArray) (t : Int) (hM : MaxAt (euW W) (euW W).heap.size) {a b : Int} {s : ByteArray} (h : oaE (euD W.heap.size (-1) sOld) nm t = 0 ∧ oaTo (euD W.heap.size (-1) sOld) nm t = a ∧ oaSv (euD W.heap.size (-1) sOld) nm t = b ∧ oaAb (euD W.heap.size (-1) sOld) nm t = s) :
    Calls Tryd.prog 5 #[.agg #[.slice (some ⟨W.heap.size + 2, 0, none⟩) 1 1, .slice (some ⟨W.heap.size + 5, 0, none⟩) 2 2, .slice (some ⟨W.heap.size + 6, 0, none⟩) 2 2], .string nm, .int .i64 t] (euW W) fun e w' => e = .returned (.tuple #[.agg #[.int .i64 a, .int .i64 b, .string s], .int .i64 0]) ∧ Below (euW W).heap.size (euW W) w' := by
  have := at_any (euD W.heap.size (-1) sOld) nm t (euW W) (eu_data (euW_in W) (by rw [euW_size]; omega) old_le) hM
  rw [h.1, h.2.1, h.2.2.1, h.2.2.2] at this
  exact this
set_option maxRecDepth 100000 in
set_option maxHeartbeats 4000000 in
theorem offBegun_any (w : World) (hM : MaxAt w w.heap.size) :
    Calls Tryd.prog 6 #[] w fun e w' => e = .returned (.bool true) ∧ Below w.heap.size w w' := by
  have SP := Lib.hid eu_mk
  have NX : Hid (∀ {w1 : World}, Below w.heap.size w w1 → Below w.heap.size w (euW w1)) := Lib.hid (fun h => euW_next h)
  have MX : Hid (∀ {w1 : World}, Below w.heap.size w w1 → MaxAt w1 w1.heap.size) := Lib.hid (fun h => hM.next h)
  have T0 : Hid (∀ W, MaxAt (euW W) (euW W).heap.size → Calls Tryd.prog 5 #[.agg #[.slice (some ⟨W.heap.size + 2, 0, none⟩) 1 1, .slice (some ⟨W.heap.size + 5, 0, none⟩) 2 2, .slice (some ⟨W.heap.size + 6, 0, none⟩) 2 2], .string ⟨#[84, 111, 119, 110]⟩, .int .i64 1585443600] (euW W) fun e w' => e = .returned (.tuple #[.agg #[.int .i64 7200, .int .i64 3600, .string ⟨#[67, 69, 68, 84]⟩], .int .i64 0]) ∧ Below (euW W).heap.size (euW W) w') := Lib.hid (fun W h => eu_at W sTown 1585443600 h (eu_a _))
  have T1 : Hid (∀ W, MaxAt (euW W) (euW W).heap.size → Calls Tryd.prog 5 #[.agg #[.slice (some ⟨W.heap.size + 2, 0, none⟩) 1 1, .slice (some ⟨W.heap.size + 5, 0, none⟩) 2 2, .slice (some ⟨W.heap.size + 6, 0, none⟩) 2 2], .string ⟨#[84]⟩, .int .i64 1585443599] (euW W) fun e w' => e = .returned (.tuple #[.agg #[.int .i64 3600, .int .i64 0, .string ⟨#[67, 69, 83, 84]⟩], .int .i64 0]) ∧ Below (euW W).heap.size (euW W) w') := Lib.hid (fun W h => eu_at W sTt 1585443599 h (eu_b _))
  have T2 : Hid (∀ W, MaxAt (euW W) (euW W).heap.size → Calls Tryd.prog 5 #[.agg #[.slice (some ⟨W.heap.size + 2, 0, none⟩) 1 1, .slice (some ⟨W.heap.size + 5, 0, none⟩) 2 2, .slice (some ⟨W.heap.size + 6, 0, none⟩) 2 2], .string ⟨#[69, 47, 79, 108, 100, 95, 84, 111, 119, 110]⟩, .int .i64 7] (euW W) fun e w' => e = .returned (.tuple #[.agg #[.int .i64 1800, .int .i64 0, .string ⟨#[76, 77, 84]⟩], .int .i64 0]) ∧ Below (euW W).heap.size (euW W) w') := Lib.hid (fun W h => eu_at W sOld 7 h (eu_c _))
  have T3 : Hid (∀ W, MaxAt (euW W) (euW W).heap.size → Calls Tryd.prog 5 #[.agg #[.slice (some ⟨W.heap.size + 2, 0, none⟩) 1 1, .slice (some ⟨W.heap.size + 5, 0, none⟩) 2 2, .slice (some ⟨W.heap.size + 6, 0, none⟩) 2 2], .string ⟨#[65, 47, 87, 101, 115, 116]⟩, .int .i64 7] (euW W) fun e w' => e = .returned (.tuple #[.agg #[.int .i64 (-14400), .int .i64 3600, .string ⟨#[88, 84]⟩], .int .i64 0]) ∧ Below (euW W).heap.size (euW W) w') := Lib.hid (fun W h => eu_at W sAW 7 h (eu_d _))
  clear hM
  have h0 := Below.refl w.heap.size w
  go_enter Tryd.func6, Tryd.ntmps6
  go_wp2_with fail
  refine (SP.out _).mono ?_
  rintro e w' ⟨rfl, rfl⟩
  go_wp2_with fail
  refine (T0.out _ (MX.out (NX.out h0))).mono ?_
  rintro e u1 ⟨rfl, hb⟩
  have hu : Below w.heap.size w u1 := (NX.out h0).trans (hb.mono (NX.out h0).size)
  have HL1 : Hid (Below w.heap.size w (u1.alloc (.cells #[.int .i64 7200, .int .i64 3600, .string ⟨#[67, 69, 68, 84]⟩] 28))) := Lib.hid (((euW_below w).trans (hb.mono (euW_below w).size)).alloc (by have := (euW_below w).size; have := hb.size; omega) _)
  have HB : Hid (Below w.heap.size w (u1.alloc (.cells #[.int .i64 7200, .int .i64 3600, .string ⟨#[67, 69, 68, 84]⟩] 28))) := Lib.hid (hu.alloc hu.size _)
  have HO1 : Hid ((u1.alloc (.cells #[.int .i64 7200, .int .i64 3600, .string ⟨#[67, 69, 68, 84]⟩] 28)).heap[u1.heap.size]? = some (.cells #[.int .i64 7200, .int .i64 3600, .string ⟨#[67, 69, 68, 84]⟩] 28)) := Lib.hid (World.alloc_heap_new _ _)
  have HZ1 : Hid ((u1.alloc (.cells #[.int .i64 7200, .int .i64 3600, .string ⟨#[67, 69, 68, 84]⟩] 28)).heap.size = u1.heap.size + 1) := Lib.hid (World.size_alloc _ _)
  clear hb hu h0
  go_wp2_with fail
  obtain ⟨v1, hv⟩ : ∃ v : World, v = u1.alloc (.cells #[.int .i64 7200, .int .i64 3600, .string ⟨#[67, 69, 68, 84]⟩] 28) := ⟨_, rfl⟩
  rw [← hv] at HB HL1 HO1 HZ1
  rw [← hv]
  clear hv
  have h1 := HB.out
  clear HB
  go_wp2_with fail
  refine (SP.out _).mono ?_
  rintro e w' ⟨rfl, rfl⟩
  go_wp2_with fail
  refine (T1.out _ (MX.out (NX.out h1))).mono ?_
  rintro e u2 ⟨rfl, hb⟩
  have hu : Below w.heap.size w u2 := (NX.out h1).trans (hb.mono (NX.out h1).size)
  have HL2 : Hid (Below v1.heap.size v1 (u2.alloc (.cells #[.int .i64 3600, .int .i64 0, .string ⟨#[67, 69, 83, 84]⟩] 28))) := Lib.hid (((euW_below v1).trans (hb.mono (euW_below v1).size)).alloc (by have := (euW_below v1).size; have := hb.size; omega) _)
  have HB : Hid (Below w.heap.size w (u2.alloc (.cells #[.int .i64 3600, .int .i64 0, .string ⟨#[67, 69, 83, 84]⟩] 28))) := Lib.hid (hu.alloc hu.size _)
  have HO2 : Hid ((u2.alloc (.cells #[.int .i64 3600, .int .i64 0, .string ⟨#[67, 69, 83, 84]⟩] 28)).heap[u2.heap.size]? = some (.cells #[.int .i64 3600, .int .i64 0, .string ⟨#[67, 69, 83, 84]⟩] 28)) := Lib.hid (World.alloc_heap_new _ _)
  have HZ2 : Hid ((u2.alloc (.cells #[.int .i64 3600, .int .i64 0, .string ⟨#[67, 69, 83, 84]⟩] 28)).heap.size = u2.heap.size + 1) := Lib.hid (World.size_alloc _ _)
  clear hb hu h1
  go_wp2_with fail
  obtain ⟨v2, hv⟩ : ∃ v : World, v = u2.alloc (.cells #[.int .i64 3600, .int .i64 0, .string ⟨#[67, 69, 83, 84]⟩] 28) := ⟨_, rfl⟩
  rw [← hv] at HB HL2 HO2 HZ2
  rw [← hv]
  clear hv
  have h2 := HB.out
  clear HB
  go_wp2_with fail
  refine (SP.out _).mono ?_
  rintro e w' ⟨rfl, rfl⟩
  go_wp2_with fail
  refine (T2.out _ (MX.out (NX.out h2))).mono ?_
  rintro e u3 ⟨rfl, hb⟩
  have hu : Below w.heap.size w u3 := (NX.out h2).trans (hb.mono (NX.out h2).size)
  have HL3 : Hid (Below v2.heap.size v2 (u3.alloc (.cells #[.int .i64 1800, .int .i64 0, .string ⟨#[76, 77, 84]⟩] 28))) := Lib.hid (((euW_below v2).trans (hb.mono (euW_below v2).size)).alloc (by have := (euW_below v2).size; have := hb.size; omega) _)
  have HB : Hid (Below w.heap.size w (u3.alloc (.cells #[.int .i64 1800, .int .i64 0, .string ⟨#[76, 77, 84]⟩] 28))) := Lib.hid (hu.alloc hu.size _)
  have HO3 : Hid ((u3.alloc (.cells #[.int .i64 1800, .int .i64 0, .string ⟨#[76, 77, 84]⟩] 28)).heap[u3.heap.size]? = some (.cells #[.int .i64 1800, .int .i64 0, .string ⟨#[76, 77, 84]⟩] 28)) := Lib.hid (World.alloc_heap_new _ _)
  have HZ3 : Hid ((u3.alloc (.cells #[.int .i64 1800, .int .i64 0, .string ⟨#[76, 77, 84]⟩] 28)).heap.size = u3.heap.size + 1) := Lib.hid (World.size_alloc _ _)
  clear hb hu h2
  go_wp2_with fail
  obtain ⟨v3, hv⟩ : ∃ v : World, v = u3.alloc (.cells #[.int .i64 1800, .int .i64 0, .string ⟨#[76, 77, 84]⟩] 28) := ⟨_, rfl⟩
  rw [← hv] at HB HL3 HO3 HZ3
  rw [← hv]
  clear hv
  have h3 := HB.out
  clear HB
  go_wp2_with fail
  refine (SP.out _).mono ?_
  rintro e w' ⟨rfl, rfl⟩
  go_wp2_with fail
  refine (T3.out _ (MX.out (NX.out h3))).mono ?_
  rintro e u4 ⟨rfl, hb⟩
  have hu : Below w.heap.size w u4 := (NX.out h3).trans (hb.mono (NX.out h3).size)
  have HL4 : Hid (Below v3.heap.size v3 (u4.alloc (.cells #[.int .i64 (-14400), .int .i64 3600, .string ⟨#[88, 84]⟩] 28))) := Lib.hid (((euW_below v3).trans (hb.mono (euW_below v3).size)).alloc (by have := (euW_below v3).size; have := hb.size; omega) _)
  have HB : Hid (Below w.heap.size w (u4.alloc (.cells #[.int .i64 (-14400), .int .i64 3600, .string ⟨#[88, 84]⟩] 28))) := Lib.hid (hu.alloc hu.size _)
  have HO4 : Hid ((u4.alloc (.cells #[.int .i64 (-14400), .int .i64 3600, .string ⟨#[88, 84]⟩] 28)).heap[u4.heap.size]? = some (.cells #[.int .i64 (-14400), .int .i64 3600, .string ⟨#[88, 84]⟩] 28)) := Lib.hid (World.alloc_heap_new _ _)
  have HZ4 : Hid ((u4.alloc (.cells #[.int .i64 (-14400), .int .i64 3600, .string ⟨#[88, 84]⟩] 28)).heap.size = u4.heap.size + 1) := Lib.hid (World.size_alloc _ _)
  clear hb hu h3
  have z1 := HZ1.out
  have z2 := HZ2.out
  have z3 := HZ3.out
  have y2 := HL2.out.size
  have y3 := HL3.out.size
  have k3 : (u4.alloc (.cells #[.int .i64 (-14400), .int .i64 3600, .string ⟨#[88, 84]⟩] 28)).heap[u3.heap.size]? = some (.cells #[.int .i64 1800, .int .i64 0, .string ⟨#[76, 77, 84]⟩] 28) := (HL4.out.block _ (by omega)).trans HO3.out
  have k2 : (u4.alloc (.cells #[.int .i64 (-14400), .int .i64 3600, .string ⟨#[88, 84]⟩] 28)).heap[u2.heap.size]? = some (.cells #[.int .i64 3600, .int .i64 0, .string ⟨#[67, 69, 83, 84]⟩] 28) := (HL4.out.block _ (by omega)).trans ((HL3.out.block _ (by omega)).trans HO2.out)
  have k1 : (u4.alloc (.cells #[.int .i64 (-14400), .int .i64 3600, .string ⟨#[88, 84]⟩] 28)).heap[u1.heap.size]? = some (.cells #[.int .i64 7200, .int .i64 3600, .string ⟨#[67, 69, 68, 84]⟩] 28) := (HL4.out.block _ (by omega)).trans ((HL3.out.block _ (by omega)).trans ((HL2.out.block _ (by omega)).trans HO1.out))
  have c00 : (u4.alloc (.cells #[.int .i64 (-14400), .int .i64 3600, .string ⟨#[88, 84]⟩] 28)).cell? ⟨u1.heap.size, 0, none⟩ = some (.int .i64 7200) := cell_of k1 rfl
  have c01 : (u4.alloc (.cells #[.int .i64 (-14400), .int .i64 3600, .string ⟨#[88, 84]⟩] 28)).cell? ⟨u1.heap.size, 1, none⟩ = some (.int .i64 3600) := cell_of k1 rfl
  have c02 : (u4.alloc (.cells #[.int .i64 (-14400), .int .i64 3600, .string ⟨#[88, 84]⟩] 28)).cell? ⟨u1.heap.size, 2, none⟩ = some (.string ⟨#[67, 69, 68, 84]⟩) := cell_of k1 rfl
  have c10 : (u4.alloc (.cells #[.int .i64 (-14400), .int .i64 3600, .string ⟨#[88, 84]⟩] 28)).cell? ⟨u2.heap.size, 0, none⟩ = some (.int .i64 3600) := cell_of k2 rfl
  have c11 : (u4.alloc (.cells #[.int .i64 (-14400), .int .i64 3600, .string ⟨#[88, 84]⟩] 28)).cell? ⟨u2.heap.size, 1, none⟩ = some (.int .i64 0) := cell_of k2 rfl
  have c12 : (u4.alloc (.cells #[.int .i64 (-14400), .int .i64 3600, .string ⟨#[88, 84]⟩] 28)).cell? ⟨u2.heap.size, 2, none⟩ = some (.string ⟨#[67, 69, 83, 84]⟩) := cell_of k2 rfl
  have c20 : (u4.alloc (.cells #[.int .i64 (-14400), .int .i64 3600, .string ⟨#[88, 84]⟩] 28)).cell? ⟨u3.heap.size, 0, none⟩ = some (.int .i64 1800) := cell_of k3 rfl
  have c21 : (u4.alloc (.cells #[.int .i64 (-14400), .int .i64 3600, .string ⟨#[88, 84]⟩] 28)).cell? ⟨u3.heap.size, 1, none⟩ = some (.int .i64 0) := cell_of k3 rfl
  have c22 : (u4.alloc (.cells #[.int .i64 (-14400), .int .i64 3600, .string ⟨#[88, 84]⟩] 28)).cell? ⟨u3.heap.size, 2, none⟩ = some (.string ⟨#[76, 77, 84]⟩) := cell_of k3 rfl
  clear z1 z2 z3 y2 y3 k1 k2 k3
  go_wp2
  go_ret
  exact ⟨rfl, HB.out⟩
end Go.Proofs.YtlngalmdidaahaaDoor
end
/-! The walk of OffTrue. -/
section
set_option linter.unusedVariables false
namespace Gno
open Go
def hasStd (s : Int) (_ : Nat) (x : Er) : Bool := x.std == s
end Gno
namespace Go.Proofs.YtlngalmdidaahaaDoor
open Go.RowKit Gno
theorem alloc_keep {W : World} {o : Obj} {a : Addr} {v : Value} (h : W.cell? a = some v) : (W.alloc o).cell? a = some v := (World.cell?_alloc_some W a o (by simp [h])).trans h
theorem alloc_keep2 {W : World} {o : Obj} {a : Addr} {v : Value} (h : W.drew.cell? a = some v) : (W.alloc o).drew.cell? a = some v := alloc_keep (W := W) h
set_option maxRecDepth 100000 in
set_option maxHeartbeats 4000000 in
theorem offTrue_bad (d : Dt) (nm : ByteArray) (t : Int) (w : World) (hs : nm.size ≤ maxLen) (hD : DataAt w w.heap.size d) (hM : MaxAt w w.heap.size) (hE : oaE d nm t ≠ 0) :
    Calls Tryd.prog 3 #[d.val, .string nm, .int .i64 t] w fun e w' => e = .returned (.bool true) ∧ Below w.heap.size w w' := by
  have HN := Lib.hid (fun W (hb : BoxB d w W) => box_next (d := d) (w := w) (W := W) hD hb)
  have A1 := Lib.hid (fun W (hb : BoxB d w W) => ((at_any d nm t W (HN.out W hb).2.1 (hM.next (HN.out W hb).1)).mono fun _ _ h => (⟨h.1, hb.trans (h.2.mono (by have := hb.size; simpa using this))⟩ : _ ∧ BoxB d w _)))
  have B1 := Lib.hid (fun W (hb : BoxB d w W) => ((offBegun_any W (hM.next (HN.out W hb).1)).mono fun _ _ h => (⟨h.1, hb.trans (h.2.mono (by have := hb.size; simpa using this))⟩ : _ ∧ BoxB d w _)))
  clear hD hM
  unfold Dt.val at *
  obtain ⟨TT, hT⟩ : ∃ v, v = oaTo d nm t := ⟨_, rfl⟩
  obtain ⟨SS, hS⟩ : ∃ v, v = oaSv d nm t := ⟨_, rfl⟩
  obtain ⟨AB, hA⟩ : ∃ v, v = oaAb d nm t := ⟨_, rfl⟩
  obtain ⟨EE, hEE⟩ : ∃ v, v = oaE d nm t := ⟨_, rfl⟩
  rw [← hT, ← hS, ← hA, ← hEE] at A1
  rw [← hEE] at hE
  have g1 : (EE != 0) = true := by simpa using hE
  clear hT hS hA hEE hE
  go_enter Tryd.func3, Tryd.ntmps3
  go_wp2_with fail
  refine (A1.out _ (Below.refl _ _)).mono ?_
  rintro e u1 ⟨rfl, h1⟩
  have h2 : BoxB d w (u1.alloc (.cells #[.int .i64 TT, .int .i64 SS, .string AB] 28)) := Below.alloc h1 (by have := h1.size; simpa using this) _
  go_wp2_with fail
  refine (B1.out _ h2).mono ?_
  rintro e u2 ⟨rfl, h3⟩
  go_wp2
  go_ret
  exact ⟨rfl, (HN.out _ h3).1⟩
set_option maxRecDepth 100000 in
set_option maxHeartbeats 4000000 in
theorem offTrue_good (d : Dt) (nm : ByteArray) (t : Int) (w : World) (hs : nm.size ≤ maxLen) (hD : DataAt w w.heap.size d) (hM : MaxAt w w.heap.size) (z : Zn) (x : Er) (ok : OkAt d nm t z x) (hE : oaE d nm t = 0) :
    Calls Tryd.prog 3 #[d.val, .string nm, .int .i64 t] w fun e w' => e = .returned (.bool true) ∧ Below w.heap.size w w' := by
  have HN := Lib.hid (fun W (hb : BoxB d w W) => box_next (d := d) (w := w) (W := W) hD hb)
  have hzn := hD.2.1.1
  obtain ⟨b, o, q, hA, hbB, hq, hq1, hq2⟩ := zones_get hD.2.1 (i := (zoneK d nm).toNat) (by have := ok.le; have := ok.lt; omega)
  rw [ok.hz] at hq
  injection hq with hq
  subst hq
  obtain ⟨i0, hi0, hil⟩ := ok.hx
  have again := ok.again
  obtain ⟨zn0, A2, n2, cap2, es2⟩ := z
  have hEr := (hq2 w (Below.refl _ _)).2
  have hEl : es2.length = n2 := hEr.1
  have hn2 : n2 ≤ 9223372036854775807 := hEr.2.1
  obtain ⟨b2, o2, _, hA2, _, _, _, _⟩ := eras_get hEr (i := i0) (hEl ▸ hil)
  have hA2' : A2 = some ⟨b2, o2, none⟩ := hA2
  clear hA2
  subst hA2'
  have A0 : ∀ s v, Hid (∀ W, BoxB d w W → oaE d s t = 0 ∧ oaTo d s t = oaTo d nm t ∧ oaSv d s t = oaSv d nm t ∧ oaAb d s t = oaAb d nm t → Calls Tryd.prog 5 #[.agg #[.slice d.sA d.sn d.sc, .slice d.zA d.zn d.zc, .slice d.lA d.ln d.lc], .string s, .int .i64 t] W fun e w' => e = .returned (.tuple #[.agg #[.int .i64 (oaTo d nm t), .int .i64 (oaSv d nm t), .string (oaAb d nm t)], .int .i64 0]) ∧ Below W.heap.size W w') := fun s (v : Unit) => Lib.hid (fun W hb hc => by
    have := at_any d s t W (HN.out W hb).2.1 (hM.next (HN.out W hb).1)
    rwa [hc.1, hc.2.1, hc.2.2.1, hc.2.2.2] at this)
  have A1 : Hid (∀ W, BoxB d w W → Calls Tryd.prog 5 #[.agg #[.slice d.sA d.sn d.sc, .slice d.zA d.zn d.zc, .slice d.lA d.ln d.lc], .string nm, .int .i64 t] W fun e w' => e = .returned (.tuple #[.agg #[.int .i64 (oaTo d nm t), .int .i64 (oaSv d nm t), .string (oaAb d nm t)], .int .i64 0]) ∧ Below W.heap.size W w') := Lib.hid (fun W hb => (A0 nm ()).out W hb ⟨hE, rfl, rfl, rfl⟩)
  have A3 : Hid (∀ W, BoxB d w W → Calls Tryd.prog 5 #[.agg #[.slice d.sA d.sn d.sc, .slice d.zA d.zn d.zc, .slice d.lA d.ln d.lc], .string zn0, .int .i64 t] W fun e w' => e = .returned (.tuple #[.agg #[.int .i64 (oaTo d nm t), .int .i64 (oaSv d nm t), .string (oaAb d nm t)], .int .i64 0]) ∧ Below W.heap.size W w') := Lib.hid (fun W hb => (A0 zn0 ()).out W hb again)
  have Z1 : Hid (∀ W, BoxB d w W → Calls Tryd.prog 7 #[.agg #[.slice d.sA d.sn d.sc, .slice d.zA d.zn d.zc, .slice d.lA d.ln d.lc], .string nm] W fun e w' => e = .returned (.tuple #[.int .i64 (zoneK d nm), .int .i64 0]) ∧ Below W.heap.size W w') := Lib.hid (fun W hb => by
    have := zone_any d nm W (HN.out W hb).2.1 (hM.next (HN.out W hb).1)
    rwa [ok.zone] at this)
  have B1 : Hid (∀ W, BoxB d w W → Calls Tryd.prog 6 #[] W fun e w' => e = .returned (.bool true) ∧ Below W.heap.size W w') := Lib.hid (fun W hb => offBegun_any W (hM.next (HN.out W hb).1))
  have hbd := ok.bd
  have htot := ok.tot
  have hsv := ok.sv
  have hab := ok.ab
  have hk0 := ok.le
  have hk1 := ok.lt
  rw [hzn] at hk1
  rw [← hsv, ← hab] at hbd
  have hst : oaTo d nm t - oaSv d nm t = x.std := by rw [htot, hsv]; unfold offTo; omega
  have HAny : Hid (anyI (hasStd (oaTo d nm t - oaSv d nm t)) es2 = true) := Lib.hid (anyI_yes hi0 (by unfold hasStd; rw [hst]; simp))
  rw [← hst] at hbd
  obtain ⟨K, hK⟩ : ∃ v, v = zoneK d nm := ⟨_, rfl⟩
  obtain ⟨TT, hTT⟩ : ∃ v, v = oaTo d nm t := ⟨_, rfl⟩
  obtain ⟨SS, hSS⟩ : ∃ v, v = oaSv d nm t := ⟨_, rfl⟩
  obtain ⟨AB, hABB⟩ : ∃ v, v = oaAb d nm t := ⟨_, rfl⟩
  rw [← hTT, ← hSS, ← hABB] at A1 A3
  rw [← hTT, ← hSS] at HAny
  rw [← hTT, ← hSS, ← hABB] at hbd
  rw [← hK] at Z1 hk0 hk1 hq2
  have HC : Hid (∀ W, BoxB d w W → (W.cell? ⟨w.heap.size, 0, none⟩ = some (.slice d.sA d.sn d.sc) ∧ W.cell? ⟨w.heap.size, 1, none⟩ = some (.slice (some ⟨b, o, none⟩) d.zn d.zc) ∧ W.cell? ⟨w.heap.size, 2, none⟩ = some (.slice d.lA d.ln d.lc)) ∧ (W.cell? ⟨b, o + K.toNat * 2, none⟩ = some (.string zn0) ∧ W.cell? ⟨b, o + K.toNat * 2 + 1, none⟩ = some (.slice (some ⟨b2, o2, none⟩) n2 cap2)) ∧ Below w.heap.size w W) := Lib.hid (fun W h => by
    have h1 := HN.out W h
    have h2 := (hq2 W h1.1).1
    exact ⟨⟨h1.2.2.1, hA ▸ h1.2.2.2.1, h1.2.2.2.2⟩, ⟨h2.1, h2.2⟩, h1.1⟩)
  have HER : Hid (∀ j, j < n2 → ∃ y, es2[j]? = some y ∧ ∀ W, BoxB d w W → W.cell? ⟨b2, o2 + j * 5, none⟩ = some (.int .i64 y.std)) := Lib.hid (fun j hj => by
    obtain ⟨b3, o3, y, hA3, _, hy, _, hc⟩ := eras_get hEr hj
    injection hA3 with hA3
    injection hA3 with e1 e2 _
    subst e1
    subst e2
    exact ⟨y, hy, fun W h => (hc W (HN.out W h).1).1⟩)
  rw [hA] at A3 Z1
  obtain ⟨⟨s1, s2⟩, ⟨s3, s4⟩, s5⟩ := hbd
  have g1 : decide (K < (0 : Int)) = false := by simp; omega
  have g2 : decide ((d.zn : Int) ≤ K) = false := by simp; omega
  have g3 : decide ((0 : Int) ≤ SS) = true := by simpa using s3
  have g4 : decide (SS ≤ (7200 : Int)) = true := by simpa using s4
  have g5 : decide ((-50400 : Int) ≤ TT - SS) = true := by simpa using s1
  have g6 : decide (TT - SS ≤ (50400 : Int)) = true := by simpa using s2
  have g7 : decide ((AB.size : Int) ≤ 24) = true := by simp; omega
  have gw : IntKind.i64.wrap (TT - SS) = TT - SS := wrap_small (by omega) (by omega)
  have hzb : K < (d.zn : Int) := by omega
  have HEL := Lib.hid hEl
  clear hzn hbB hq1 hq2 hE hs ok hi0 hil again hEr A0 htot hsv hab hst hK hTT hSS hABB hA hM hD hEl
  unfold Dt.val
  go_enter Tryd.func3, Tryd.ntmps3
  go_wp2_with fail
  refine (A1.out _ (Below.refl _ _)).mono ?_
  rintro e u1 ⟨rfl, h1⟩
  have hb1 : BoxB d w u1 := h1.mono (by simp)
  have hbv : BoxB d w (u1.alloc (.cells #[.int .i64 TT, .int .i64 SS, .string AB] 28)) := Below.alloc hb1 (by have := hb1.size; simpa using this) _
  have HO : Hid (∀ W, Below (u1.alloc (.cells #[.int .i64 TT, .int .i64 SS, .string AB] 28)).heap.size (u1.alloc (.cells #[.int .i64 TT, .int .i64 SS, .string AB] 28)) W → BoxB d w W ∧ (W.cell? ⟨u1.heap.size, 0, none⟩ = some (.int .i64 TT) ∧ W.cell? ⟨u1.heap.size, 1, none⟩ = some (.int .i64 SS) ∧ W.cell? ⟨u1.heap.size, 2, none⟩ = some (.string AB))) := Lib.hid (fun W h => by
    have k := (h.block u1.heap.size (by simp)).trans (World.alloc_heap_new u1 (.cells #[.int .i64 TT, .int .i64 SS, .string AB] 28))
    exact ⟨hbv.trans (h.mono (by have := hbv.size; simp at this ⊢ <;> omega)), cell_of k rfl, cell_of k rfl, cell_of k rfl⟩)
  have HU := Lib.hid hbv
  have HZU : Hid (u1.heap.size < (u1.alloc (.cells #[.int .i64 TT, .int .i64 SS, .string AB] 28)).heap.size) := Lib.hid (by simp)
  obtain ⟨⟨c0, c1, c2⟩, _⟩ := HC.out _ hbv
  clear h1 hb1 hbv
  go_wp2_with fail
  obtain ⟨v1, hv⟩ : ∃ v : World, v = u1.alloc (.cells #[.int .i64 TT, .int .i64 SS, .string AB] 28) := ⟨_, rfl⟩
  clear c0 c1 c2
  rw [← hv] at HO HU HZU
  rw [← hv]
  clear hv
  refine (Z1.out _ HU.out).mono ?_
  rintro e w2 ⟨rfl, h2⟩
  have hb2 := (HO.out _ h2).1
  obtain ⟨⟨c0, c1, c2⟩, ⟨c3, _⟩, _⟩ := HC.out _ hb2
  have H2 := Lib.hid h2
  have HB2 := Lib.hid hb2
  clear h2
  go_wp2_with fail
  have H2D : Hid (Below v1.heap.size v1 w2.drew) := Lib.hid H2.out.drew
  have H2A : Hid (Below v1.heap.size v1 (w2.alloc (.cells #[.int .i64 0, .int .i64 0, .string ⟨#[]⟩] 28)).drew) := Lib.hid (H2.out.alloc H2.out.size _).drew
  have n0 : w2.heap.size ≠ w.heap.size := World.new_ne w2 _ c0
  have n3 : w2.heap.size ≠ b := World.new_ne w2 _ c3
  clear hb2 c0 c1 c2 c3
  have HD2 : Hid (BoxB d w w2.drew) := Lib.hid (HO.out _ H2D.out).1
  obtain ⟨⟨c0, c1, c2⟩, ⟨c3, _⟩, _⟩ := HC.out _ HD2.out
  go_region_held3 (fun w' => (w'.cell? ⟨w.heap.size, 0, none⟩ = some (.slice d.sA d.sn d.sc) ∧ w'.cell? ⟨w.heap.size, 1, none⟩ = some (.slice (some ⟨b, o, none⟩) d.zn d.zc) ∧ w'.cell? ⟨w.heap.size, 2, none⟩ = some (.slice d.lA d.ln d.lc)) ∧ w'.cell? ⟨b, o + K.toNat * 2, none⟩ = some (.string zn0))
    (refine ⟨⟨?_, ?_, ?_⟩, ?_⟩ <;> (first | with_reducible exact c0 | with_reducible exact c1 | with_reducible exact c2 | with_reducible exact c3 | with_reducible exact alloc_keep c0 | with_reducible exact alloc_keep c1 | with_reducible exact alloc_keep c2 | with_reducible exact alloc_keep c3 | with_reducible exact alloc_keep2 c0 | with_reducible exact alloc_keep2 c1 | with_reducible exact alloc_keep2 c2 | with_reducible exact alloc_keep2 c3 | (rw [far3 n0]; first | with_reducible exact c0 | with_reducible exact c1 | with_reducible exact c2) | (rw [far3 n3]; with_reducible exact c3) | (trace_state; fail)))
    (first
      | (go_at_call 5; refine (A3.out _ (HO.out _ H2D.out).1).mono ?_; rintro e w9 ⟨rfl, h9⟩; have h9v := H2D.out.trans (h9.mono H2D.out.size); have H9 := Lib.hid h9; clear h9 c0 c1 c2 c3; obtain ⟨⟨c0, c1, c2⟩, ⟨c3, _⟩, _⟩ := HC.out _ (HO.out _ h9v).1; have n4 := World.new_ne w9 _ c0; have n5 := World.new_ne w9 _ c3)
      | (go_at_call 5; refine (A3.out _ (HO.out _ H2A.out).1).mono ?_; rintro e w9 ⟨rfl, h9⟩; have h9v := H2A.out.trans (h9.mono H2A.out.size); have k9 : w9.heap[w2.heap.size]? = some (.cells #[.int .i64 0, .int .i64 0, .string ⟨#[]⟩] 28) := (h9.block _ (by simp)).trans (World.alloc_heap_new w2 _); have H9 := Lib.hid h9; clear h9 c0 c1 c2 c3; obtain ⟨⟨c0, c1, c2⟩, ⟨c3, _⟩, _⟩ := HC.out _ (HO.out _ h9v).1; have p0 : w9.cell? ⟨w2.heap.size, 0, none⟩ = some (.int .i64 0) := cell_of k9 rfl; have p1 : w9.cell? ⟨w2.heap.size, 1, none⟩ = some (.int .i64 0) := cell_of k9 rfl; have p2 : w9.cell? ⟨w2.heap.size, 2, none⟩ = some (.string ⟨#[]⟩) := cell_of k9 rfl; have f0 : w9.frozen? ⟨w2.heap.size, 0, none⟩ = false := frozen_of k9; have f1 : w9.frozen? ⟨w2.heap.size, 1, none⟩ = false := frozen_of k9; have f2 : w9.frozen? ⟨w2.heap.size, 2, none⟩ = false := frozen_of k9))
  · have B3 : Below v1.heap.size v1 (w9.alloc (.cells #[.int .i64 TT, .int .i64 SS, .string AB] 28)) := Below.alloc h9v h9v.size _
    have P3 : (w9.alloc (.cells #[.int .i64 TT, .int .i64 SS, .string AB] 28)).heap[w9.heap.size]? = some (.cells #[.int .i64 TT, .int .i64 SS, .string AB] 28) := World.alloc_heap_new _ _
    obtain ⟨v3, hv3⟩ : ∃ v : World, v = w9.alloc (.cells #[.int .i64 TT, .int .i64 SS, .string AB] 28) := ⟨_, rfl⟩
    rw [← hv3] at B3 P3
    rw [← hv3]
    have PL : w9.heap.size < v3.heap.size := by
      rcases Nat.lt_or_ge (w9.heap.size) v3.heap.size with q | q
      · exact q
      · rw [Array.getElem?_eq_none q] at P3; cases P3
    have HP : Hid (∀ W, Below v3.heap.size v3 W → BoxB d w W ∧ (W.cell? ⟨w.heap.size, 0, none⟩ = some (.slice d.sA d.sn d.sc) ∧ W.cell? ⟨w.heap.size, 1, none⟩ = some (.slice (some ⟨b, o, none⟩) d.zn d.zc) ∧ W.cell? ⟨w.heap.size, 2, none⟩ = some (.slice d.lA d.ln d.lc)) ∧ (W.cell? ⟨b, o + K.toNat * 2, none⟩ = some (.string zn0) ∧ W.cell? ⟨b, o + K.toNat * 2 + 1, none⟩ = some (.slice (some ⟨b2, o2, none⟩) n2 cap2)) ∧ (W.cell? ⟨u1.heap.size, 0, none⟩ = some (.int .i64 TT) ∧ W.cell? ⟨u1.heap.size, 1, none⟩ = some (.int .i64 SS) ∧ W.cell? ⟨u1.heap.size, 2, none⟩ = some (.string AB)) ∧ (W.cell? ⟨w9.heap.size, 0, none⟩ = some (.int .i64 TT) ∧ W.cell? ⟨w9.heap.size, 1, none⟩ = some (.int .i64 SS) ∧ W.cell? ⟨w9.heap.size, 2, none⟩ = some (.string AB)) ∧ Below w.heap.size w W) := Lib.hid (fun W h => by
      have h1 := HO.out W (B3.trans (h.mono B3.size))
      have h2 := HC.out W h1.1
      have k := (h.block (w9.heap.size) PL).trans P3
      exact ⟨h1.1, h2.1, h2.2.1, h1.2, ⟨cell_of k rfl, cell_of k rfl, cell_of k rfl⟩, h2.2.2⟩)
    clear hv3 B3 P3 PL c0 c1 c2 c3 h9v H9
    obtain ⟨_, ⟨c0, c1, c2⟩, ⟨c3, c4⟩, ⟨o0, o1, o2'⟩, ⟨p0, p1, p2⟩, _⟩ := HP.out _ (Below.refl _ _)
    go_wp2_with fail
    go_loopw [14, 15] (fun b14 b15 wr => ∃ j : Nat, j ≤ n2 ∧ b15 = .int .i64 j ∧ b14 = .bool (anyTo (atI (hasStd (TT - SS)) es2) j) ∧ Hid (Below v3.heap.size v3 wr)) (fun _ b _ => n2 - (intOf b).toNat)
    case atStart => exact ⟨0, Nat.zero_le _, rfl, rfl, Lib.hid (Below.refl _ _)⟩
    case round =>
      clear c0 c1 c2 c3 c4 o0 o1 o2' p0 p1 p2
      obtain ⟨j, hj, rfl, rfl, hb⟩ := hrel
      obtain ⟨hbx, ⟨c0, c1, c2⟩, ⟨c3, c4⟩, ⟨o0, o1, o2'⟩, ⟨p0, p1, p2⟩, hbw⟩ := HP.out _ hb.out
      have HBX := Lib.hid hbx
      have HBW := Lib.hid hbw
      clear hbx hbw
      by_cases hjt : j < n2
      · obtain ⟨y, hy, hyc⟩ := HER.out j hjt
        have e0 := hyc _ HBX.out
        have HY := Lib.hid hy
        have HN1 : Hid (anyTo (atI (hasStd (TT - SS)) es2) (j + 1) = (anyTo (atI (hasStd (TT - SS)) es2) j || (y.std == TT - SS))) := Lib.hid (by
          show (anyTo (atI (hasStd (TT - SS)) es2) j || atI (hasStd (TT - SS)) es2 j) = _
          rw [atI_eq HY.out]; rfl)
        obtain ⟨B, hB⟩ : ∃ v, v = anyTo (atI (hasStd (TT - SS)) es2) j := ⟨_, rfl⟩
        rw [← hB] at HN1 ⊢
        clear hB hy hyc
        cases B
        · cases hq : (y.std == TT - SS)
          · rw [hq] at HN1
            go_wp2
            go_roundw
            case rel => exact ⟨j + 1, by omega, by go_num, by rw [HN1.out]; rfl, hb⟩
            case measure => simp [intOf]; omega
          · rw [hq] at HN1
            go_wp2
            go_roundw
            case rel => exact ⟨j + 1, by omega, by go_num, by rw [HN1.out]; rfl, hb⟩
            case measure => simp [intOf]; omega
        · go_wp2
          go_roundw
          case rel => exact ⟨j + 1, by omega, by go_num, by rw [HN1.out]; rfl, hb⟩
          case measure => simp [intOf]; omega
      · have hjn : anyTo (atI (hasStd (TT - SS)) es2) j = true := by
          have := HAny.out
          unfold anyI at this
          rw [HEL.out] at this
          rwa [show j = n2 by omega]
        rw [hjn]
        clear hjn
        go_wp2_with fail
        refine (B1.out _ HBX.out).mono ?_
        rintro e w10 ⟨rfl, h10⟩
        clear c0 c1 c2 c3 c4 o0 o1 o2' p0 p1 p2
        obtain ⟨_, ⟨c0, c1, c2⟩, ⟨c3, c4⟩, ⟨o0, o1, o2'⟩, ⟨p0, p1, p2⟩, hbw⟩ := HP.out _ (hb.out.trans (h10.mono hb.out.size))
        go_wp2
        go_ret
        exact ⟨rfl, hbw⟩
  · have B3 : Below v1.heap.size v1 (((w9.setCell ⟨w2.heap.size, 0, none⟩ (.int .i64 TT)).setCell ⟨w2.heap.size, 1, none⟩ (.int .i64 SS)).setCell ⟨w2.heap.size, 2, none⟩ (.string AB)) := ((h9v.setCell H2.out.size _).setCell H2.out.size _).setCell H2.out.size _
    have P3 : (((w9.setCell ⟨w2.heap.size, 0, none⟩ (.int .i64 TT)).setCell ⟨w2.heap.size, 1, none⟩ (.int .i64 SS)).setCell ⟨w2.heap.size, 2, none⟩ (.string AB)).heap[w2.heap.size]? = some (.cells #[.int .i64 TT, .int .i64 SS, .string AB] 28) := (set_obj (set_obj (set_obj k9 _) _) _).trans rfl
    obtain ⟨v3, hv3⟩ : ∃ v : World, v = (((w9.setCell ⟨w2.heap.size, 0, none⟩ (.int .i64 TT)).setCell ⟨w2.heap.size, 1, none⟩ (.int .i64 SS)).setCell ⟨w2.heap.size, 2, none⟩ (.string AB)) := ⟨_, rfl⟩
    rw [← hv3] at B3 P3
    rw [← hv3]
    have PL : w2.heap.size < v3.heap.size := by
      rcases Nat.lt_or_ge (w2.heap.size) v3.heap.size with q | q
      · exact q
      · rw [Array.getElem?_eq_none q] at P3; cases P3
    have HP : Hid (∀ W, Below v3.heap.size v3 W → BoxB d w W ∧ (W.cell? ⟨w.heap.size, 0, none⟩ = some (.slice d.sA d.sn d.sc) ∧ W.cell? ⟨w.heap.size, 1, none⟩ = some (.slice (some ⟨b, o, none⟩) d.zn d.zc) ∧ W.cell? ⟨w.heap.size, 2, none⟩ = some (.slice d.lA d.ln d.lc)) ∧ (W.cell? ⟨b, o + K.toNat * 2, none⟩ = some (.string zn0) ∧ W.cell? ⟨b, o + K.toNat * 2 + 1, none⟩ = some (.slice (some ⟨b2, o2, none⟩) n2 cap2)) ∧ (W.cell? ⟨u1.heap.size, 0, none⟩ = some (.int .i64 TT) ∧ W.cell? ⟨u1.heap.size, 1, none⟩ = some (.int .i64 SS) ∧ W.cell? ⟨u1.heap.size, 2, none⟩ = some (.string AB)) ∧ (W.cell? ⟨w2.heap.size, 0, none⟩ = some (.int .i64 TT) ∧ W.cell? ⟨w2.heap.size, 1, none⟩ = some (.int .i64 SS) ∧ W.cell? ⟨w2.heap.size, 2, none⟩ = some (.string AB)) ∧ Below w.heap.size w W) := Lib.hid (fun W h => by
      have h1 := HO.out W (B3.trans (h.mono B3.size))
      have h2 := HC.out W h1.1
      have k := (h.block (w2.heap.size) PL).trans P3
      exact ⟨h1.1, h2.1, h2.2.1, h1.2, ⟨cell_of k rfl, cell_of k rfl, cell_of k rfl⟩, h2.2.2⟩)
    clear hv3 B3 P3 PL c0 c1 c2 c3 h9v H9
    obtain ⟨_, ⟨c0, c1, c2⟩, ⟨c3, c4⟩, ⟨o0, o1, o2'⟩, ⟨p0, p1, p2⟩, _⟩ := HP.out _ (Below.refl _ _)
    go_wp2_with fail
    go_loopw [14, 15] (fun b14 b15 wr => ∃ j : Nat, j ≤ n2 ∧ b15 = .int .i64 j ∧ b14 = .bool (anyTo (atI (hasStd (TT - SS)) es2) j) ∧ Hid (Below v3.heap.size v3 wr)) (fun _ b _ => n2 - (intOf b).toNat)
    case atStart => exact ⟨0, Nat.zero_le _, rfl, rfl, Lib.hid (Below.refl _ _)⟩
    case round =>
      clear c0 c1 c2 c3 c4 o0 o1 o2' p0 p1 p2
      obtain ⟨j, hj, rfl, rfl, hb⟩ := hrel
      obtain ⟨hbx, ⟨c0, c1, c2⟩, ⟨c3, c4⟩, ⟨o0, o1, o2'⟩, ⟨p0, p1, p2⟩, hbw⟩ := HP.out _ hb.out
      have HBX := Lib.hid hbx
      have HBW := Lib.hid hbw
      clear hbx hbw
      by_cases hjt : j < n2
      · obtain ⟨y, hy, hyc⟩ := HER.out j hjt
        have e0 := hyc _ HBX.out
        have HY := Lib.hid hy
        have HN1 : Hid (anyTo (atI (hasStd (TT - SS)) es2) (j + 1) = (anyTo (atI (hasStd (TT - SS)) es2) j || (y.std == TT - SS))) := Lib.hid (by
          show (anyTo (atI (hasStd (TT - SS)) es2) j || atI (hasStd (TT - SS)) es2 j) = _
          rw [atI_eq HY.out]; rfl)
        obtain ⟨B, hB⟩ : ∃ v, v = anyTo (atI (hasStd (TT - SS)) es2) j := ⟨_, rfl⟩
        rw [← hB] at HN1 ⊢
        clear hB hy hyc
        cases B
        · cases hq : (y.std == TT - SS)
          · rw [hq] at HN1
            go_wp2
            go_roundw
            case rel => exact ⟨j + 1, by omega, by go_num, by rw [HN1.out]; rfl, hb⟩
            case measure => simp [intOf]; omega
          · rw [hq] at HN1
            go_wp2
            go_roundw
            case rel => exact ⟨j + 1, by omega, by go_num, by rw [HN1.out]; rfl, hb⟩
            case measure => simp [intOf]; omega
        · go_wp2
          go_roundw
          case rel => exact ⟨j + 1, by omega, by go_num, by rw [HN1.out]; rfl, hb⟩
          case measure => simp [intOf]; omega
      · have hjn : anyTo (atI (hasStd (TT - SS)) es2) j = true := by
          have := HAny.out
          unfold anyI at this
          rw [HEL.out] at this
          rwa [show j = n2 by omega]
        rw [hjn]
        clear hjn
        go_wp2_with fail
        refine (B1.out _ HBX.out).mono ?_
        rintro e w10 ⟨rfl, h10⟩
        clear c0 c1 c2 c3 c4 o0 o1 o2' p0 p1 p2
        obtain ⟨_, ⟨c0, c1, c2⟩, ⟨c3, c4⟩, ⟨o0, o1, o2'⟩, ⟨p0, p1, p2⟩, hbw⟩ := HP.out _ (hb.out.trans (h10.mono hb.out.size))
        go_wp2
        go_ret
        exact ⟨rfl, hbw⟩
theorem offTrue_walk (d : Dt) (nm : ByteArray) (t : Int) (w : World) (hs : nm.size ≤ maxLen) (hD : DataAt w w.heap.size d) (hM : MaxAt w w.heap.size) :
    Calls Tryd.prog 3 #[d.val, .string nm, .int .i64 t] w fun e w' => e = .returned (.bool true) ∧ Below w.heap.size w w' := by
  by_cases hE : oaE d nm t = 0
  · obtain ⟨z, x, ok⟩ := okAt_of hE
    exact offTrue_good d nm t w hs hD hM z x ok hE
  · exact offTrue_bad d nm t w hs hD hM hE
end Go.Proofs.YtlngalmdidaahaaDoor
end
