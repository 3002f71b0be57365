/- Parts of a proof, laid together. -/
import Derived.Test.YtlngalmdidaahaaGreatDoorMUMostP42
import Derived.Test.YtlngalmdidaahaaGreatDoorMUMostP36
import Derived.Test.YtlngalmdidaahaaGreatDoorMUMostP37
set_option linter.unusedSimpArgs false
set_option linter.unusedVariables false
/-! table.Compile, whatever it is handed. -/
section
set_option linter.unusedVariables false
set_option linter.unusedSimpArgs false
namespace Gno
open Go
theorem turnsN_mem {H : Int → Of_} : ∀ (n : Nat) (y : Tn), y ∈ turnsN H n → ∃ t : Nat, t ≤ n ∧ y = offAt (H (t : Int)) (t : Int)
  | 0, y, h => ⟨0, Nat.le_refl _, by rw [show turnsN H 0 = [offAt (H 0) 0] from rfl, List.mem_singleton] at h; exact h⟩
  | n + 1, y, h => by
    have h : y ∈ (if H (n : Int) = H ((n : Int) + 1) then turnsN H n else turnsN H n ++ [offAt (H ((n : Int) + 1)) ((n : Int) + 1)]) := h
    split at h
    · obtain ⟨t, h1, h2⟩ := turnsN_mem n y h
      exact ⟨t, by omega, h2⟩
    · rcases List.mem_append.1 h with h | h
      · obtain ⟨t, h1, h2⟩ := turnsN_mem n y h
        exact ⟨t, by omega, h2⟩
      · rw [List.mem_singleton] at h
        exact ⟨n + 1, Nat.le_refl _, by rw [h]; simp⟩
/-- what holds in a zone at a time that there is. -/
theorem zoneO_is {d : Dt} (hr : RightE d) {z : Zn} (hz : z ∈ d.zs) {t : Int} (h : t < 1893456000) : ∃ x ∈ z.es, zoneO d z t = offO d x t ∧ (offO d x t).ab.size ≤ 24 := by
  obtain ⟨x, hx, hxm, _, _, _⟩ := hr.era hz h
  have hx1 := eraOk_is (hr.eras z hz _ x hx)
  have hb := off_bd hr hx1.2.2.1 t
  have hf := hr.fmts z hz x hxm
  have hf12 : x.fmt.size ≤ 12 := by
    unfold fmtOk at hf
    simp at hf
    omega
  exact ⟨x, hxm, by unfold zoneO; rw [eraOf_is hx], repl_size hf12 hb.2⟩
theorem compT_ab {d : Dt} (hr : RightE d) {z : Zn} (hz : z ∈ d.zs) : ∀ y ∈ compT d z, y.ab.size ≤ maxLen := by
  intro y hy
  rw [compT_is hr hz] at hy
  obtain ⟨t, ht, rfl⟩ := turnsN_mem _ _ hy
  obtain ⟨x, _, hx, hs⟩ := zoneO_is hr hz (t := t) (by omega)
  show (zoneO d z t).ab.size ≤ maxLen
  rw [hx]
  unfold maxLen
  omega
/-- a name that leads to a zone: which one it is. -/
theorem zone_there {d : Dt} {nm : ByteArray} (he : zoneEr d nm = 0) : dataE d = 0 ∧ ∃ z, d.zs[(zoneK d nm).toNat]? = some z ∧ oaZ d nm = z ∧ z ∈ d.zs ∧ 0 ≤ zoneK d nm ∧ zoneK d nm < d.zs.length := by
  have hd0 : dataE d = 0 := by
    unfold zoneEr at he
    split at he
    · rename_i q; exact absurd he q
    · rename_i q; exact Classical.not_not.1 q
  have hle : ¬ leadN d nm < 0 := by
    intro q
    have := (zone_none (nm := nm) hd0 q).2
    rw [he] at this; cases this
  have hzk := (zone_is (nm := nm) hd0 hle).1
  have hlr : leadN d nm < d.zs.length := (leadT_range d (d.ls.length + 1) nm).2
  have hq := List.getElem?_eq_getElem (l := d.zs) (i := (zoneK d nm).toNat) (by omega)
  exact ⟨hd0, _, hq, by unfold oaZ; rw [hq], List.mem_of_getElem? hq, by omega, by omega⟩
end Gno
namespace Go.Proofs.YtlngalmdidaahaaGreatDoor
open Go.RowKit Gno
set_option maxRecDepth 100000 in
set_option maxHeartbeats 4000000 in
theorem compile_bad (d : Dt) (nm : ByteArray) (w : World) (hD : DataAt w w.heap.size d) (hM : MaxAt w w.heap.size) (he : zoneEr d nm ≠ 0) :
    Calls Tryz.prog 13 #[d.val, .string nm] w fun e w' => e = .returned (.tuple #[.slice none 0 0, .int .i64 (zoneEr d nm)]) ∧ Below w.heap.size w w' := by
  have HN := Lib.hid (fun W (hb : BoxB d w W) => box_next (d := d) (w := w) (W := W) hD hb)
  have HZ : Hid (∀ W, BoxB d w W → Calls Tryz.prog 19 #[d.val, .string nm] W fun e w' => e = .returned (.tuple #[.int .i64 (zoneK d nm), .int .i64 (zoneEr d nm)]) ∧ BoxB d w w') := Lib.hid (fun W hb =>
    (zone_any d nm W (HN.out W hb).2.1 (hM.next (HN.out W hb).1)).mono fun _ _ h => ⟨h.1, hb.trans (h.2.mono (by have := hb.size; simpa using this))⟩)
  have hbb : BoxB d w (w.alloc (Dobj d)) := Below.refl _ _
  clear hD hM
  unfold Dt.val at *
  obtain ⟨KK, hK⟩ : ∃ v, v = zoneK d nm := ⟨_, rfl⟩
  obtain ⟨EE, hEE⟩ : ∃ v, v = zoneEr d nm := ⟨_, rfl⟩
  rw [← hK, ← hEE] at HZ
  rw [← hEE] at he ⊢
  have g1 : (EE != 0) = true := by simpa using he
  clear he hK hEE
  go_enter Tryz.func13, Tryz.ntmps13
  go_wp2_with fail
  refine (HZ.out _ hbb).mono ?_
  rintro e w3 ⟨rfl, h3⟩
  go_wp2
  go_ret2
  exact ⟨rfl, (HN.out _ h3).1⟩
theorem compile_any (d : Dt) (nm : ByteArray) (w : World) (hD : DataAt w w.heap.size d) (hM : MaxAt w w.heap.size) :
    Calls Tryz.prog 13 #[d.val, .string nm] w fun e w' => ∃ A cap, e = .returned (.tuple #[.slice A (tabN d nm).length cap, .int .i64 (zoneEr d nm)]) ∧ TurnsAt w' w'.heap.size A (tabN d nm).length (tabN d nm) ∧ Below w.heap.size w w' := by
  by_cases he : zoneEr d nm = 0
  · obtain ⟨hd0, z, hzq, hoz, hzm, _, _⟩ := zone_there he
    have hr := rightE_of hd0
    have ht : tabN d nm = compT d z := by unfold tabN; rw [if_pos he, hoz]
    rw [ht, he]
    refine (compile_good d nm w hD hM he z hzq).mono ?_
    rintro e w' ⟨v, rfl, hown, hb⟩
    have hlen : (compT d z).length ≤ 241 * z.es.length := comp_len hr (fun s hs => by
      obtain ⟨i, hi⟩ := List.getElem?_of_mem hs
      have hil := (List.getElem?_eq_some_iff.1 hi).1
      obtain ⟨_, _, q, _, _, hq, _, hq2⟩ := sets_get hD.1 (i := i) (by have := hD.1.1; omega)
      rw [hi] at hq
      injection hq with hq
      subst hq
      have h1 := ((hq2 w (Below.refl _ _)).2).1
      have h2 := rules_few hd0 hs
      omega) z.es z.es.length
    have hz4 : z.es.length ≤ 4 := by
      obtain ⟨i, hi⟩ := List.getElem?_of_mem hzm
      have hil := (List.getElem?_eq_some_iff.1 hi).1
      obtain ⟨_, _, q, _, _, hq, _, hq2⟩ := zones_get hD.2.1 (i := i) (by have := hD.2.1.1; omega)
      rw [hi] at hq
      injection hq with hq
      subst hq
      have h1 := ((hq2 w (Below.refl _ _)).2).1
      have h2 := eras_few hd0 hzm
      omega
    obtain ⟨A, cap, rfl, hT⟩ := turns_own hown (by unfold maxLen; omega) (compT_ab hr hzm)
    exact ⟨A, cap, rfl, hT, hb⟩
  · have ht : tabN d nm = [] := by unfold tabN; rw [if_neg he]
    rw [ht]
    refine (compile_bad d nm w hD hM he).mono ?_
    rintro e w' ⟨rfl, hb⟩
    exact ⟨none, 0, rfl, ⟨rfl, by unfold maxLen; simp, fun h => absurd h (by simp)⟩, hb⟩
end Go.Proofs.YtlngalmdidaahaaGreatDoor
end
/-! table.fine, table.Look. -/
section
set_option linter.unusedVariables false
set_option linter.unusedSimpArgs false
namespace Gno
open Go
def lastA (l : List Tn) : Nat → Int
  | 0 => -1
  | k + 1 => match l[k]? with | some y => y.a | none => -1
/-- may they be turns? -/
structure FineL (l : List Tn) : Prop where
  pos : 0 < l.length
  first : ∀ y, l[0]? = some y → y.a = 0
  last : ∀ y, l[l.length - 1]? = some y → y.a < 1893456000
  asc : ∀ (j : Nat) y, l[j]? = some y → lastA l j < y.a
noncomputable def fineB (l : List Tn) : Bool := @decide (FineL l) (Classical.propDecidable _)
theorem fineB_yes {l : List Tn} (h : FineL l) : fineB l = true := by unfold fineB; exact @decide_eq_true _ (Classical.propDecidable _) h
theorem fineB_no {l : List Tn} (h : ¬ FineL l) : fineB l = false := by unfold fineB; exact @decide_eq_false _ (Classical.propDecidable _) h
theorem fineB_iff {l : List Tn} : fineB l = true ↔ FineL l := by unfold fineB; exact @decide_eq_true_iff _ (Classical.propDecidable _)
theorem lastA_step {l : List Tn} {i : Nat} {y : Tn} (h : l[i]? = some y) : lastA l (i + 1) = y.a := by
  show (match l[i]? with | some y => y.a | none => -1) = _
  rw [h]
theorem FineL.lt {l : List Tn} (h : FineL l) {i j : Nat} {x y : Tn} (hij : i < j) (hx : l[i]? = some x) (hy : l[j]? = some y) : x.a < y.a := by
  induction j generalizing y with
  | zero => omega
  | succ j ih =>
    have h1 := h.asc (j + 1) y hy
    have hj : j < l.length := by have := (List.getElem?_eq_some_iff.1 hy).1; omega
    have hq := List.getElem?_eq_getElem hj
    rw [lastA_step hq] at h1
    by_cases e : i = j
    · subst e
      rw [hq] at hx
      injection hx with hx
      rw [← hx]; exact h1
    · have := ih (by omega) hq
      omega
/-- the last of the first n that is not behind t. -/
def lastLe (t : Int) (l : List Tn) : Nat → Option Tn
  | 0 => none
  | k + 1 => match l[k]? with | some y => if y.a ≤ t then some y else lastLe t l k | none => lastLe t l k
theorem lastLe_is {t : Int} {l : List Tn} {k : Nat} {y : Tn} (hk : l[k]? = some y) (hy : y.a ≤ t) : ∀ n, k < n → (∀ (j : Nat) z, k < j → j < n → l[j]? = some z → t < z.a) → lastLe t l n = some y
  | 0, h, _ => by omega
  | n + 1, h, hc => by
    show (match l[n]? with | some y => if y.a ≤ t then some y else lastLe t l n | none => lastLe t l n) = _
    by_cases e : n = k
    · subst e
      rw [hk]
      show (if y.a ≤ t then some y else _) = _
      rw [if_pos hy]
    · have ih := lastLe_is hk hy n (by omega) (fun j z h1 h2 => hc j z h1 (by omega))
      cases hq : l[n]? with
      | none => exact ih
      | some z =>
        show (if z.a ≤ t then some z else lastLe t l n) = _
        have := hc n z (by omega) (by omega) hq
        rw [if_neg (by omega), ih]
noncomputable def lookE (l : List Tn) (t : Int) : Int := if fineB l = true then (if t < 0 ∨ 1893456000 ≤ t then 3 else 0) else 1
noncomputable def lookY (l : List Tn) (t : Int) : Tn := if lookE l t = 0 then (match lastLe t l l.length with | some y => y | none => ⟨0, 0, 0, ⟨#[]⟩⟩) else ⟨0, 0, 0, ⟨#[]⟩⟩
theorem lookY_bad {l : List Tn} {t e : Int} (h : lookE l t = e) (he : e ≠ 0) : lookY l t = ⟨0, 0, 0, ⟨#[]⟩⟩ := by unfold lookY; rw [h, if_neg he]
theorem lookY_is {l : List Tn} {t : Int} (h : lookE l t = 0) {y : Tn} (hy : lastLe t l l.length = some y) : lookY l t = y := by unfold lookY; rw [h, if_pos rfl, hy]
end Gno
namespace Go.Proofs.YtlngalmdidaahaaGreatDoor
open Go.RowKit Gno
set_option maxRecDepth 100000 in
set_option maxHeartbeats 4000000 in
theorem fine_any (A : Option Addr) (n cap : Nat) (l : List Tn) (w : World) (hT : TurnsAt w w.heap.size A n l) :
    Calls Tryz.prog 37 #[.slice A n cap] w fun e w' => e = .returned (.bool (fineB l)) ∧ Below w.heap.size w w' := by
  have hl : l.length = n := hT.1
  have hnl : n ≤ 9223372036854775807 := hT.2.1
  by_cases hn : n = 0
  · subst hn
    have HX := Lib.hid (fineB_no (l := l) (fun h => by have := h.pos; omega))
    clear hl hT
    go_enter Tryz.func37, Tryz.ntmps37
    go_wp2
    go_ret
    exact ⟨ret_bool HX.out.symm, Below.refl _ _⟩
  · obtain ⟨b, o, y0, hA, _, hy0, _, hc0⟩ := turns_get hT (i := 0) (by omega)
    obtain ⟨b', o', y1, hA', _, hy1, _, hc1⟩ := turns_get hT (i := n - 1) (by omega)
    rw [hA] at hA'
    injection hA' with hA'
    injection hA' with q1 q2 _
    subst q1
    subst q2
    subst hA
    have HTU := Lib.hid hT
    have hneq : ((n : Int) == 0) = false := by simp; omega
    have hgn : IntKind.i64.wrap ((n : Int) - 1) = ((n - 1 : Nat) : Int) := by
      rw [show (n : Int) - 1 = ((n - 1 : Nat) : Int) by omega]
      simp [IntKind.wrap, IntKind.bits, IntKind.signed]
      omega
    have hpos : (0 : Int) < (n : Int) := by omega
    obtain ⟨c0, _⟩ := hc0 _ (Below.refl _ _)
    obtain ⟨c1, _⟩ := hc1 _ (Below.refl _ _)
    rw [show o + 0 * 4 = o by omega] at c0
    by_cases h0 : y0.a = 0
    · have g0 : (y0.a != 0) = false := by simpa using h0
      by_cases h1 : y1.a < 1893456000
      · have g1 : decide ((1893456000 : Int) ≤ y1.a) = false := by simp; omega
        have HF : Hid ((∀ (j : Nat) y, l[j]? = some y → lastA l j < y.a) → FineL l) := Lib.hid (fun h => { pos := by omega, first := fun y hy => by rw [hy0] at hy; injection hy with hy; rw [← hy]; exact h0, last := fun y hy => by rw [hl, hy1] at hy; injection hy with hy; rw [← hy]; exact h1, asc := h })
        have HLN := Lib.hid hl
        clear h0 h1 hy0 hy1 hc0 hc1 hT hl
        go_enter Tryz.func37, Tryz.ntmps37
        go_wp2
        go_loopw [3, 28] (fun b3 b28 wr => ∃ i : Nat, i ≤ n ∧ b28 = .int .i64 i ∧ b3 = .int .i64 (lastA l i) ∧ Hid (∀ (j : Nat) y, j < i → l[j]? = some y → lastA l j < y.a) ∧ Hid (Below w.heap.size w wr)) (fun _ b28 _ => n - (intOf b28).toNat)
        case atStart => exact ⟨0, Nat.zero_le _, rfl, rfl, Lib.hid (fun j y hj => by omega), Lib.hid (Below.refl _ _)⟩
        case round =>
          clear c0 c1
          obtain ⟨i, hi, rfl, rfl, has, hb⟩ := hrel
          by_cases hit : i < n
          · obtain ⟨b2, o2, y, hA2, _, hy, _, hc⟩ := turns_get HTU.out hit
            injection hA2 with hA2
            injection hA2 with q1 q2 _
            subst q1
            subst q2
            obtain ⟨e0, e1, e2, e3⟩ := hc _ hb.out
            have HLS := Lib.hid (lastA_step hy)
            have HY := Lib.hid hy
            clear hc hy
            by_cases hq : lastA l i < y.a
            · have HAS : Hid (∀ (j : Nat) z, j < i + 1 → l[j]? = some z → lastA l j < z.a) := Lib.hid (fun j z hj hz => by
                by_cases e : j = i
                · subst e; rw [HY.out] at hz; injection hz with hz; rw [← hz]; exact hq
                · exact has.out j z (by omega) hz)
              have gq : decide (y.a ≤ lastA l i) = false := by simp; omega
              obtain ⟨LA, hLA⟩ : ∃ v, v = lastA l i := ⟨_, rfl⟩
              rw [← hLA] at gq
              rw [← hLA]
              clear hLA hq has HY
              go_wp2
              go_roundw
              case rel => exact ⟨i + 1, by omega, by go_num, by rw [HLS.out], HAS, Lib.hid (hb.out.alloc (by have := hb.out.size; omega) _)⟩
              case measure => simp [intOf]; omega
            · have gq : decide (y.a ≤ lastA l i) = true := by simp; omega
              have HX := Lib.hid (fineB_no (l := l) (fun h => hq (h.asc i y HY.out)))
              obtain ⟨LA, hLA⟩ : ∃ v, v = lastA l i := ⟨_, rfl⟩
              rw [← hLA] at gq
              rw [← hLA]
              clear hLA hq has HY HLS
              go_wp2
              go_ret
              exact ⟨ret_bool HX.out.symm, hb.out.alloc (by have := hb.out.size; omega) _⟩
          · have hin : i = n := by omega
            have HX := Lib.hid (fineB_yes (HF.out (fun j y hy => has.out j y (by have := (List.getElem?_eq_some_iff.1 hy).1; have := HLN.out; omega) hy)))
            clear hin has
            go_wp2
            go_ret
            exact ⟨ret_bool HX.out.symm, hb.out⟩
      · have g1 : decide ((1893456000 : Int) ≤ y1.a) = true := by simp; omega
        have HX := Lib.hid (fineB_no (l := l) (fun h => h1 (h.last y1 (by rw [hl]; exact hy1))))
        clear h0 h1 hy0 hy1 hc0 hc1 hT hl
        go_enter Tryz.func37, Tryz.ntmps37
        go_wp2
        go_ret
        exact ⟨ret_bool HX.out.symm, Below.refl _ _⟩
    · have g0 : (y0.a != 0) = true := by simpa using h0
      have HX := Lib.hid (fineB_no (l := l) (fun h => h0 (h.first y0 hy0)))
      clear h0 hy0 hy1 hc0 hc1 hT hl
      go_enter Tryz.func37, Tryz.ntmps37
      go_wp2
      go_ret
      exact ⟨ret_bool HX.out.symm, Below.refl _ _⟩
theorem wrap_big {v : Int} (h1 : -4611686018427387904 ≤ v) (h2 : v ≤ 4611686018427387904) : IntKind.i64.wrap v = v := by
  simp [IntKind.wrap, IntKind.bits, IntKind.signed]
  omega
set_option maxRecDepth 100000 in
set_option maxHeartbeats 4000000 in
theorem look_any (A : Option Addr) (n cap : Nat) (l : List Tn) (t : Int) (w : World) (hT : TurnsAt w w.heap.size A n l) (hn : n ≤ 1073741824) :
    Calls Tryz.prog 14 #[.slice A n cap, .int .i64 t] w fun e w' => e = .returned (.tuple #[.agg #[.int .i64 (lookY l t).tt, .int .i64 (lookY l t).sv, .string (lookY l t).ab], .int .i64 (lookE l t)]) ∧ Below w.heap.size w w' := by
  have hl : l.length = n := hT.1
  have HQ : Hid (∀ W, Below (w.heap.size + 1) (w.alloc (.cells #[.int .i64 0, .int .i64 0, .string ⟨#[]⟩] 28)) W → Below w.heap.size w W ∧ TurnsAt W W.heap.size A n l ∧ (W.cell? ⟨w.heap.size, 0, none⟩ = some (.int .i64 0) ∧ W.cell? ⟨w.heap.size, 1, none⟩ = some (.int .i64 0) ∧ W.cell? ⟨w.heap.size, 2, none⟩ = some (.string ⟨#[]⟩) ∧ W.frozen? ⟨w.heap.size, 0, none⟩ = false ∧ W.frozen? ⟨w.heap.size, 1, none⟩ = false ∧ W.frozen? ⟨w.heap.size, 2, none⟩ = false) ∧ W.heap[w.heap.size]? = some (.cells #[.int .i64 0, .int .i64 0, .string ⟨#[]⟩] 28)) := Lib.hid (fun W h => by
    have k := (h.block w.heap.size (by simp)).trans (World.alloc_heap_new w (.cells #[.int .i64 0, .int .i64 0, .string ⟨#[]⟩] 28))
    have hb : Below w.heap.size w W := ((Below.refl w.heap.size w).alloc (Nat.le_refl _) _).trans (h.mono (by omega))
    exact ⟨hb, hT.next hb, ⟨cell_of k rfl, cell_of k rfl, cell_of k rfl, frozen_of k, frozen_of k, frozen_of k⟩, k⟩)
  have FC : Hid (∀ W, Below (w.heap.size + 1) (w.alloc (.cells #[.int .i64 0, .int .i64 0, .string ⟨#[]⟩] 28)) W → Calls Tryz.prog 37 #[.slice A n cap] W fun e w' => e = .returned (.bool (fineB l)) ∧ Below (w.heap.size + 1) (w.alloc (.cells #[.int .i64 0, .int .i64 0, .string ⟨#[]⟩] 28)) w') := Lib.hid (fun W h =>
    (fine_any A n cap l W (HQ.out W h).2.1).mono fun _ _ h2 => ⟨h2.1, h.trans (h2.2.mono (by have := h.size; simpa using this))⟩)
  have hbb : Below (w.heap.size + 1) (w.alloc (.cells #[.int .i64 0, .int .i64 0, .string ⟨#[]⟩] 28)) (w.alloc (.cells #[.int .i64 0, .int .i64 0, .string ⟨#[]⟩] 28)) := Below.refl _ _
  cases hf : fineB l
  · have hE : lookE l t = 1 := by unfold lookE; rw [hf]; rfl
    rw [hf] at FC
    clear hT hl hf
    have hY := lookY_bad hE (by decide)
    rw [hE, hY]
    clear hE hY
    go_enter Tryz.func14, Tryz.ntmps14
    go_wp2_with fail
    refine (FC.out _ hbb).mono ?_
    rintro e w3 ⟨rfl, h3⟩
    obtain ⟨hbw, _, ⟨r0, r1, r2, f0, f1, f2⟩, k2⟩ := HQ.out _ h3
    have K2 := Lib.hid k2
    clear k2
    go_wp2
    refine bodyPost_ret (results_cell_row_tmp rfl _ _ w.heap.size 28 _ (0, 0) _ rfl (set_obj (set_obj (set_obj K2.out _) _) _) Tryz.underlying28 rfl (by kernel_rfl)) rfl ⟨?_, ((hbw.setCell (by simp) _).setCell (by simp) _).setCell (by simp) _⟩
    rfl
  · rw [hf] at FC
    by_cases h1 : t < 0
    · have hE : lookE l t = 3 := by unfold lookE; rw [if_pos hf, if_pos (.inl h1)]
      have g1 : decide (t < (0 : Int)) = true := by simpa using h1
      clear hT hl hf h1
      have hY := lookY_bad hE (by decide)
      rw [hE, hY]
      clear hE hY
      go_enter Tryz.func14, Tryz.ntmps14
      go_wp2_with fail
      refine (FC.out _ hbb).mono ?_
      rintro e w3 ⟨rfl, h3⟩
      obtain ⟨hbw, _, ⟨r0, r1, r2, f0, f1, f2⟩, k2⟩ := HQ.out _ h3
      have K2 := Lib.hid k2
      clear k2
      go_wp2
      refine bodyPost_ret (results_cell_row_tmp rfl _ _ w.heap.size 28 _ (0, 0) _ rfl (set_obj (set_obj (set_obj K2.out _) _) _) Tryz.underlying28 rfl (by kernel_rfl)) rfl ⟨?_, ((hbw.setCell (by simp) _).setCell (by simp) _).setCell (by simp) _⟩
      rfl
    · by_cases h2 : 1893456000 ≤ t
      · have hE : lookE l t = 3 := by unfold lookE; rw [if_pos hf, if_pos (.inr h2)]
        have g1 : decide (t < (0 : Int)) = false := by simp; omega
        have g2 : decide ((1893456000 : Int) ≤ t) = true := by simpa using h2
        clear hT hl hf h1 h2
        have hY := lookY_bad hE (by decide)
        rw [hE, hY]
        clear hE hY
        go_enter Tryz.func14, Tryz.ntmps14
        go_wp2_with fail
        refine (FC.out _ hbb).mono ?_
        rintro e w3 ⟨rfl, h3⟩
        obtain ⟨hbw, _, ⟨r0, r1, r2, f0, f1, f2⟩, k2⟩ := HQ.out _ h3
        have K2 := Lib.hid k2
        clear k2
        go_wp2
        refine bodyPost_ret (results_cell_row_tmp rfl _ _ w.heap.size 28 _ (0, 0) _ rfl (set_obj (set_obj (set_obj K2.out _) _) _) Tryz.underlying28 rfl (by kernel_rfl)) rfl ⟨?_, ((hbw.setCell (by simp) _).setCell (by simp) _).setCell (by simp) _⟩
        rfl
      · have hE : lookE l t = 0 := by unfold lookE; rw [if_pos hf, if_neg (by omega)]
        have g1 : decide (t < (0 : Int)) = false := by simp; omega
        have g2 : decide ((1893456000 : Int) ≤ t) = false := by simp; omega
        have HFL := Lib.hid (fineB_iff.1 hf)
        have hpos := HFL.out.pos
        rw [hl] at hpos
        obtain ⟨b, o, y0, hA, _, hy0, _, _⟩ := turns_get hT (i := 0) hpos
        subst hA
        have hf0 := HFL.out.first y0 hy0
        have H0 : Hid (∀ y, l[0]? = some y → y.a ≤ t) := Lib.hid (fun y hy => by rw [hy0] at hy; injection hy with hy; rw [← hy]; omega)
        have HR := Lib.hid (fun y hy => lookY_is hE (y := y) hy)
        have HL := Lib.hid hl
        rw [hE]
        obtain ⟨RY, hRY⟩ : ∃ v, v = lookY l t := ⟨_, rfl⟩
        rw [← hRY] at HR
        rw [← hRY]
        clear hT hl hf h1 h2 hE hy0 hf0 hRY
        go_enter Tryz.func14, Tryz.ntmps14
        go_wp2_with fail
        refine (FC.out _ hbb).mono ?_
        rintro e w3 ⟨rfl, h3⟩
        have H3 := Lib.hid h3
        clear h3 hbb
        go_wp2_with fail
        go_loopw [6, 7] (fun b6 b7 wr => ∃ lo hi : Nat, lo < hi ∧ hi ≤ n ∧ b6 = .int .i64 lo ∧ b7 = .int .i64 hi ∧ Hid (∀ y, l[lo]? = some y → y.a ≤ t) ∧ Hid (∀ (j : Nat) z, hi ≤ j → l[j]? = some z → t < z.a) ∧ Hid (Below (w.heap.size + 1) (w.alloc (.cells #[.int .i64 0, .int .i64 0, .string ⟨#[]⟩] 28)) wr)) (fun b6 b7 _ => (intOf b7 - intOf b6).toNat)
        case atStart => exact ⟨0, n, hpos, Nat.le_refl _, rfl, rfl, H0, Lib.hid (fun j z hj hz => by have := (List.getElem?_eq_some_iff.1 hz).1; have := HL.out; omega), H3⟩
        case round =>
          obtain ⟨lo, hi, hlh, hhn, rfl, rfl, hlo, hhi, hb⟩ := hrel
          have gw1 : IntKind.i64.wrap ((hi : Int) - (lo : Int)) = (hi : Int) - (lo : Int) := wrap_big (by omega) (by omega)
          by_cases h1 : 1 < hi - lo
          · have gg : decide ((1 : Int) < (hi : Int) - (lo : Int)) = true := by simp; omega
            obtain ⟨M, hM⟩ : ∃ M : Nat, M = (lo + hi) / 2 := ⟨_, rfl⟩
            have gw2 : IntKind.i64.wrap ((lo : Int) + (hi : Int)) = (lo : Int) + (hi : Int) := wrap_big (by omega) (by omega)
            have gt : ((lo : Int) + (hi : Int)).tdiv 2 = (M : Int) := by
              rw [Int.tdiv_eq_ediv_of_nonneg (by omega)]
              omega
            have gw3 : IntKind.i64.wrap (M : Int) = (M : Int) := wrap_big (by omega) (by omega)
            have hM1 : lo < M := by omega
            have hM2 : M < hi := by omega
            have hMn : M < n := by omega
            obtain ⟨b2, o2, y, hA2, _, hy, _, hc⟩ := turns_get (HQ.out _ hb.out).2.1 hMn
            injection hA2 with hA2
            injection hA2 with q1 q2 _
            subst q1
            subst q2
            obtain ⟨e0, e1, e2, e3⟩ := hc _ (Below.refl _ _)
            have HY := Lib.hid hy
            clear hc hy hM
            by_cases hq : y.a ≤ t
            · have gq : decide (y.a ≤ t) = true := by simpa using hq
              have HLO : Hid (∀ z, l[M]? = some z → z.a ≤ t) := Lib.hid (fun z hz => by rw [HY.out] at hz; injection hz with hz; rw [← hz]; exact hq)
              clear hq HY
              go_wp2
              go_roundw
              case rel => exact ⟨M, hi, hM2, hhn, rfl, rfl, HLO, hhi, hb⟩
              case measure => simp [intOf]; omega
            · have gq : decide (y.a ≤ t) = false := by simpa using hq
              have HHI : Hid (∀ (j : Nat) z, M ≤ j → l[j]? = some z → t < z.a) := Lib.hid (fun j z hj hz => by
                by_cases e : j = M
                · subst e; rw [HY.out] at hz; injection hz with hz; rw [← hz]; omega
                · have := HFL.out.lt (by omega) HY.out hz; omega)
              clear hq HY
              go_wp2
              go_roundw
              case rel => exact ⟨lo, M, hM1, by omega, rfl, rfl, hlo, HHI, hb⟩
              case measure => simp [intOf]; omega
          · have gg : decide ((1 : Int) < (hi : Int) - (lo : Int)) = false := by simp; omega
            have hhl : hi = lo + 1 := by omega
            have hln : lo < n := by omega
            obtain ⟨b2, o2, y, hA2, _, hy, _, hc⟩ := turns_get (HQ.out _ hb.out).2.1 hln
            injection hA2 with hA2
            injection hA2 with q1 q2 _
            subst q1
            subst q2
            obtain ⟨e0, e1, e2, e3⟩ := hc _ (Below.refl _ _)
            have hRY := HR.out y (by
              rw [HL.out]
              exact lastLe_is hy (hlo.out y hy) n hln (fun j z h1 h2 hz => hhi.out j z (by omega) hz))
            obtain ⟨hbw, _, ⟨r0, r1, r2, f0, f1, f2⟩, k2⟩ := HQ.out _ hb.out
            have HK2 := Lib.hid k2
            have HRY := Lib.hid hRY
            clear hc hy k2 hRY hhl
            go_wp2
            refine bodyPost_ret (results_cell_row_tmp rfl _ _ w.heap.size 28 _ (0, 0) _ rfl (set_obj (set_obj (set_obj HK2.out _) _) _) Tryz.underlying28 rfl (by kernel_rfl)) rfl ⟨?_, ((hbw.setCell (by simp) _).setCell (by simp) _).setCell (by simp) _⟩
            rw [HRY.out]
            rfl
end Go.Proofs.YtlngalmdidaahaaGreatDoor
end
/-! Plain: what a table tells is what holds. -/
section
set_option linter.unusedVariables false
set_option linter.unusedSimpArgs false
namespace Gno
open Go
/-- later turns come behind. -/
theorem turnsN_pre {H : Int → Of_} {m : Nat} : ∀ n : Nat, m ≤ n → ∃ r, turnsN H n = turnsN H m ++ r ∧ ∀ y ∈ r, (m : Int) < y.a ∧ y.a ≤ n
  | 0, h => ⟨[], by rw [show m = 0 by omega]; simp, by simp⟩
  | n + 1, h => by
    by_cases e : m = n + 1
    · exact ⟨[], by rw [e]; simp, by simp⟩
    · obtain ⟨r, h1, h2⟩ := turnsN_pre (H := H) (m := m) n (by omega)
      show ∃ r, (if H (n : Int) = H ((n : Int) + 1) then turnsN H n else turnsN H n ++ [offAt (H ((n : Int) + 1)) ((n : Int) + 1)]) = turnsN H m ++ r ∧ _
      by_cases hc : H (n : Int) = H ((n : Int) + 1)
      · rw [if_pos hc]
        exact ⟨r, h1, fun y hy => by have := h2 y hy; omega⟩
      · rw [if_neg hc, h1]
        refine ⟨r ++ [offAt (H ((n : Int) + 1)) ((n : Int) + 1)], by simp, fun y hy => ?_⟩
        rcases List.mem_append.1 hy with q | q
        · have := h2 y q; omega
        · rw [List.mem_singleton] at q
          rw [q]
          show (m : Int) < (n : Int) + 1 ∧ (n : Int) + 1 ≤ _
          omega
/-- something else from a time on: a turn more. -/
theorem turnsN_turn {H : Int → Of_} {m n : Nat} (hmn : m ≤ n) (hs : ∀ t : Nat, m ≤ t → t < n → H (t : Int) = H ((t : Int) + 1)) (hd : H (n : Int) ≠ H ((n : Int) + 1)) : turnsN H (n + 1) = turnsN H m ++ [offAt (H ((n : Int) + 1)) ((n : Int) + 1)] := by
  show (if H (n : Int) = H ((n : Int) + 1) then turnsN H n else turnsN H n ++ [offAt (H ((n : Int) + 1)) ((n : Int) + 1)]) = _
  rw [if_neg hd, turnsN_same n hmn hs]
theorem turnsN_bd {H : Int → Of_} {n : Nat} : ∀ y ∈ turnsN H n, 0 ≤ y.a ∧ y.a ≤ n := by
  intro y hy
  obtain ⟨t, ht, rfl⟩ := turnsN_mem n y hy
  show (0 : Int) ≤ (t : Int) ∧ (t : Int) ≤ n
  omega
theorem turnsN_pair {H : Int → Of_} : ∀ n : Nat, (turnsN H n).Pairwise (fun x y => x.a < y.a)
  | 0 => by rw [show turnsN H 0 = [offAt (H 0) 0] from rfl]; simp
  | n + 1 => by
    have ih := turnsN_pair (H := H) n
    show (if H (n : Int) = H ((n : Int) + 1) then turnsN H n else turnsN H n ++ [offAt (H ((n : Int) + 1)) ((n : Int) + 1)]).Pairwise _
    split
    · exact ih
    · rw [List.pairwise_append]
      refine ⟨ih, by simp, fun x hx y hy => ?_⟩
      rw [List.mem_singleton] at hy
      have := turnsN_bd x hx
      rw [hy]
      show x.a < (n : Int) + 1
      omega
theorem turnsN_head {H : Int → Of_} (n : Nat) : ∃ r, turnsN H n = offAt (H 0) 0 :: r := by
  obtain ⟨r, h, _⟩ := turnsN_pre (H := H) (m := 0) n (Nat.zero_le _)
  exact ⟨r, h⟩
theorem turnsN_fine {H : Int → Of_} {n : Nat} (hn : n < 1893456000) : FineL (turnsN H n) := by
  obtain ⟨r, hr⟩ := turnsN_head (H := H) n
  refine { pos := by rw [hr]; simp, first := fun y hy => ?_, last := fun y hy => ?_, asc := fun j y hy => ?_ }
  · rw [hr] at hy
    injection hy with hy
    rw [← hy]; rfl
  · have := turnsN_bd y (List.mem_of_getElem? hy)
    omega
  · cases j with
    | zero => have := turnsN_bd y (List.mem_of_getElem? hy); show (-1 : Int) < y.a; omega
    | succ j =>
      have hl := (List.getElem?_eq_some_iff.1 hy).1
      have hq := List.getElem?_eq_getElem (l := turnsN H n) (i := j) (by omega)
      rw [lastA_step hq]
      have := List.pairwise_iff_getElem.1 (turnsN_pair (H := H) n) j (j + 1) (by omega) hl (by omega)
      rw [List.getElem?_eq_getElem hl] at hy
      injection hy with hy
      rw [← hy]; exact this
/-- what was told last by a time is what holds. -/
theorem turnsN_at {H : Int → Of_} {n t : Nat} (ht : t ≤ n) : ∃ y, lastLe (t : Int) (turnsN H n) (turnsN H n).length = some y ∧ y.off = H t := by
  obtain ⟨r, h1, h2⟩ := turnsN_pre (H := H) (m := t) n ht
  obtain ⟨y, h3, h4⟩ := turnsN_last (H := H) t
  have hpos : 0 < (turnsN H t).length := by obtain ⟨q, hq⟩ := turnsN_head (H := H) t; rw [hq]; simp
  rw [List.getLast?_eq_getElem?] at h3
  have hk : (turnsN H n)[(turnsN H t).length - 1]? = some y := by rw [h1, List.getElem?_append_left (by omega)]; exact h3
  refine ⟨y, lastLe_is hk (turnsN_bd y (List.mem_of_getElem? h3)).2 _ (by rw [h1, List.length_append]; omega) (fun j z q1 q2 hz => ?_), h4⟩
  rw [h1, List.getElem?_append_right (by omega)] at hz
  exact (h2 z (List.mem_of_getElem? hz)).1
/-- a zone's table. -/
theorem tab_is {d : Dt} {nm : ByteArray} (he : zoneEr d nm = 0) : ∃ z ∈ d.zs, tabN d nm = turnsN (zoneO d z) 1893455999 ∧ d.zs[(zoneK d nm).toNat]? = some z := by
  obtain ⟨hd0, z, hzq, hoz, hzm, _, _⟩ := zone_there he
  exact ⟨z, hzm, by unfold tabN; rw [if_pos he, hoz]; exact compT_is (rightE_of hd0) hzm, hzq⟩
theorem tab_none {d : Dt} {nm : ByteArray} (he : zoneEr d nm ≠ 0) : tabN d nm = [] := by unfold tabN; rw [if_neg he]
theorem tab_fine {d : Dt} {nm : ByteArray} (he : zoneEr d nm = 0) : fineB (tabN d nm) = true := by
  obtain ⟨z, hz, ht, _⟩ := tab_is he
  rw [ht]
  exact fineB_yes (turnsN_fine (by omega))
/-- what At tells is what holds in the zone. -/
theorem at_zone {d : Dt} {nm : ByteArray} {t : Int} {z : Zn} (h : oaE d nm t = 0) (hz : d.zs[(zoneK d nm).toNat]? = some z) : zoneO d z t = ⟨oaTo d nm t, oaSv d nm t, oaAb d nm t⟩ := by
  obtain ⟨h1, h2, h3⟩ := at_good h hz
  rw [h1, h2, h3]
  rfl
theorem oaE_zero {d : Dt} {nm : ByteArray} {t : Int} : oaE d nm t = 0 ↔ zoneEr d nm = 0 ∧ 0 ≤ t ∧ t < 1893456000 := by
  unfold oaE
  by_cases h : zoneEr d nm = 0
  · rw [if_neg (by simp [h])]
    by_cases ht : t < 0 ∨ 1893456000 ≤ t
    · rw [if_pos ht]
      constructor
      · intro q; exact absurd q (by decide)
      · rintro ⟨_, q1, q2⟩; omega
    · rw [if_neg ht]
      exact ⟨fun _ => ⟨h, by omega, by omega⟩, fun _ => rfl⟩
  · rw [if_pos h]
    exact ⟨fun q => absurd q h, fun q => absurd q.1 h⟩
/-- the table tells what holds. -/
theorem tab_tells {d : Dt} {nm : ByteArray} {t : Int} (h : oaE d nm t = 0) : lookE (tabN d nm) t = 0 ∧ (lookY (tabN d nm) t).tt = oaTo d nm t ∧ (lookY (tabN d nm) t).sv = oaSv d nm t ∧ (lookY (tabN d nm) t).ab = oaAb d nm t := by
  obtain ⟨he, h0, h1⟩ := oaE_zero.1 h
  obtain ⟨z, hz, ht, hzq⟩ := tab_is he
  have hE : lookE (tabN d nm) t = 0 := by unfold lookE; rw [if_pos (tab_fine he), if_neg (by omega)]
  obtain ⟨k, rfl⟩ : ∃ k : Nat, (k : Int) = t := ⟨t.toNat, by omega⟩
  obtain ⟨y, hy, ho⟩ := turnsN_at (H := zoneO d z) (n := 1893455999) (t := k) (by omega)
  rw [← ht] at hy
  rw [lookY_is hE hy]
  rw [at_zone h hzq] at ho
  obtain ⟨a, b, c, e⟩ := y
  have ho : Of_.mk b c e = Of_.mk (oaTo d nm k) (oaSv d nm k) (oaAb d nm k) := ho
  injection ho with o1 o2 o3
  exact ⟨hE, o1, o2, o3⟩
end Gno
end
/-! Plain: the turns of a zone with two eras and a set of two rules: ninety. -/
section
set_option linter.unusedVariables false
set_option linter.unusedSimpArgs false
namespace Gno
open Go
def gA (y : Int) : Int := beginN y 3 2 0 0 7200 3600
def gB (y : Int) : Int := beginN y 10 2 0 0 7200 3600
/-- from when in the year's winter on. -/
def pI (i : Nat) : Int := if i = 0 then 500000000 else gB (1985 + i)
def tabChk : Bool := (List.range 44).all (fun i => decide (pI i < gA (1986 + i)) && (decide (gA (1986 + i) < pI (i + 1)) && (decide (gB (1985 + i) ≤ pI i) && decide (gA (1985 + i) < gB (1985 + i)))))
theorem tab_chk {i : Nat} (h : i < 44) : pI i < gA (1986 + i) ∧ gA (1986 + i) < pI (i + 1) ∧ gB (1985 + i) ≤ pI i ∧ gA (1985 + i) < gB (1985 + i) := by
  have h0 : tabChk = true := by kernel_rfl
  unfold tabChk at h0
  have := List.all_eq_true.1 h0 i (List.mem_range.2 h)
  simpa using this
theorem tab_end : gA 2029 < gB 2029 ∧ gB 2029 < 1893456000 ∧ (500000000 : Int) = pI 0 := by
  have h1 : decide (gA 2029 < gB 2029) = true := by kernel_rfl
  have h2 : decide (gB 2029 < 1893456000) = true := by kernel_rfl
  exact ⟨of_decide_eq_true h1, of_decide_eq_true h2, rfl⟩
theorem pI_s (i : Nat) : pI (i + 1) = gB (1986 + i) := by
  unfold pI
  rw [if_neg (by omega)]
  congr 1
  omega
theorem two_b {a b t : Int} (h1 : sA.top 3600 t = some a) (h2 : sB.top 3600 t = some b) (h : a ≤ b) : (latest springs 3600 t).1 = 1 := by
  rw [springs, latest2, h1, h2]
  simp [lstep, h]
theorem two_a {a b t : Int} (h1 : sA.top 3600 t = some a) (h2 : sB.top 3600 t = some b) (h : b < a) : (latest springs 3600 t).1 = 0 := by
  rw [springs, latest2, h1, h2, show lstep 0 (-1, 0) (some a) = (0, a) from by simp [lstep]]
  show (if (0 : Int) < 0 ∨ a ≤ b then ((1 : Int), b) else ((0 : Int), a)).1 = 0
  rw [if_neg (by omega)]
/-- the winter. -/
theorem late_b {i : Nat} {t : Int} (hi : i ≤ 44) (h1 : gB (1985 + i) ≤ t) (h2 : i < 44 → t < gA (1986 + i)) : (latest springs 3600 t).1 = 1 := by
  have hab : gA (1985 + i) < gB (1985 + i) := by
    by_cases e : i < 44
    · exact (tab_chk e).2.2.2
    · rw [show (1985 : Int) + i = 2029 by omega]; exact tab_end.1
  refine two_b (a := gA (1985 + i)) (b := gB (1985 + i)) ?_ ?_ (by omega)
  · exact spring_top 3 7200 (by omega) (by omega) 3600 t (1985 + i) (by omega) (by omega) (by show gA (1985 + i) ≤ t; omega) (fun h => by
      have := h2 (by omega)
      rw [show (1985 : Int) + i + 1 = 1986 + i by omega]; exact this)
  · exact spring_top 10 7200 (by omega) (by omega) 3600 t (1985 + i) (by omega) (by omega) h1 (fun h => by
      have h3 := h2 (by omega)
      have h4 := (tab_chk (i := i) (by omega)).2.1
      rw [pI_s] at h4
      rw [show (1985 : Int) + i + 1 = 1986 + i by omega]
      show t < gB (1986 + i)
      omega)
/-- the summer. -/
theorem late_a {i : Nat} {t : Int} (hi : i < 44) (h1 : gA (1986 + i) ≤ t) (h2 : t < gB (1986 + i)) : (latest springs 3600 t).1 = 0 := by
  have hc := tab_chk hi
  have hb : gB (1985 + i) < gA (1986 + i) := by omega
  refine two_a (a := gA (1986 + i)) (b := gB (1985 + i)) ?_ ?_ hb
  · exact spring_top 3 7200 (by omega) (by omega) 3600 t (1986 + i) (by omega) (by omega) h1 (fun h => by
      have h3 := tab_chk (i := i + 1) (by omega)
      have h4 := pI_s i
      rw [show (1986 : Int) + i + 1 = 1986 + ((i + 1 : Nat) : Int) by omega]
      show t < gA (1986 + ((i + 1 : Nat) : Int))
      omega)
  · exact spring_top 10 7200 (by omega) (by omega) 3600 t (1985 + i) (by omega) (by omega) (by show gB (1985 + i) ≤ t; omega) (fun h => by
      rw [show (1985 : Int) + i + 1 = 1986 + i by omega]; exact h2)
def eE1 : Er := ⟨1800, -1, 0, sLMT, 500000000⟩
def eE2 : Er := ⟨3600, 0, 0, sCEsT, 1893456000⟩
def euZ (k : Nat) : Zn := ⟨sOld, some ⟨k + 3, 0, none⟩, 2, 2, [eE1, eE2]⟩
theorem euZ_mem (k : Nat) : euZ k ∈ (euD k (-1) sOld).zs := by unfold euD euZ eE1 eE2; simp
theorem eu_one (k : Nat) {t : Int} (h0 : 0 ≤ t) (h1 : t < 500000000) : zoneO (euD k (-1) sOld) (euZ k) t = ⟨1800, 0, sLMT⟩ := by
  have hw := (rightE_of (eu_ok k)).within (euZ_mem k) (i := 0) (x := eE1) rfl (t := t) h0 h1
  unfold zoneO
  rw [hw]
  obtain ⟨q1, q2⟩ := off_none (offR_none (d := euD k (-1) sOld) (x := eE1) (t := t) (by decide))
  unfold offO offTo offAb
  rw [q1, q2]
  have : repl eE1.fmt ⟨#[]⟩ = sLMT := by kernel_rfl
  rw [this]
  rfl
theorem eu_two (k : Nat) {t : Int} (h0 : 500000000 ≤ t) (h1 : t < 1893456000) : zoneO (euD k (-1) sOld) (euZ k) t = offO (euD k (-1) sOld) eE2 t := by
  have hw := (rightE_of (eu_ok k)).within (euZ_mem k) (i := 1) (x := eE2) rfl (t := t) h0 h1
  unfold zoneO
  rw [hw]
theorem eu_win (k : Nat) {t : Int} (h0 : 500000000 ≤ t) (h1 : t < 1893456000) (h : (latest springs 3600 t).1 = 1) : zoneO (euD k (-1) sOld) (euZ k) t = ⟨3600, 0, sCEST⟩ := by
  rw [eu_two k h0 h1]
  obtain ⟨q1, q2⟩ := eu_set (k := k) (x := eE2) (t := t) (r := sB) (i := 1) rfl h (by omega) rfl
  unfold offO offTo offAb
  rw [q1, q2]
  have : repl eE2.fmt sB.le = sCEST := by kernel_rfl
  rw [this]
  rfl
theorem eu_sum (k : Nat) {t : Int} (h0 : 500000000 ≤ t) (h1 : t < 1893456000) (h : (latest springs 3600 t).1 = 0) : zoneO (euD k (-1) sOld) (euZ k) t = ⟨7200, 3600, sCEDT⟩ := by
  rw [eu_two k h0 h1]
  obtain ⟨q1, q2⟩ := eu_set (k := k) (x := eE2) (t := t) (r := sA) (i := 0) rfl h (by omega) rfl
  unfold offO offTo offAb
  rw [q1, q2]
  have : repl eE2.fmt sA.le = sCEDT := by kernel_rfl
  rw [this]
  rfl
theorem pI_ge : ∀ i : Nat, i ≤ 44 → 500000000 ≤ pI i
  | 0, _ => by rw [← tab_end.2.2]; exact Int.le_refl _
  | i + 1, h => by
    have := pI_ge i (by omega)
    have := tab_chk (i := i) (by omega)
    omega
theorem pI_lt : ∀ i : Nat, i ≤ 44 → pI i < 1893456000 := by
  have key : ∀ j i : Nat, i + j = 44 → pI i < 1893456000 := by
    intro j
    induction j with
    | zero =>
      intro i hi
      obtain rfl : i = 43 + 1 := by omega
      rw [pI_s]
      exact tab_end.2.1
    | succ j ih =>
      intro i hi
      have h1 := ih (i + 1) (by omega)
      have h2 := tab_chk (i := i) (by omega)
      omega
  intro i hi
  exact key (44 - i) i (by omega)
/-- in winter. -/
theorem H_win (k : Nat) {i : Nat} {t : Int} (hi : i ≤ 44) (h1 : pI i ≤ t) (h2 : i < 44 → t < gA (1986 + i)) (h3 : t < 1893456000) : zoneO (euD k (-1) sOld) (euZ k) t = ⟨3600, 0, sCEST⟩ := by
  have hg := pI_ge i hi
  refine eu_win k (by omega) h3 (late_b hi ?_ h2)
  by_cases e : i < 44
  · have := (tab_chk e).2.2.1; omega
  · obtain rfl : i = 43 + 1 := by omega
    rw [pI_s] at h1
    exact h1
/-- in summer. -/
theorem H_sum (k : Nat) {i : Nat} {t : Int} (hi : i < 44) (h1 : gA (1986 + i) ≤ t) (h2 : t < pI (i + 1)) : zoneO (euD k (-1) sOld) (euZ k) t = ⟨7200, 3600, sCEDT⟩ := by
  have hg := pI_ge i (by omega)
  have hc := tab_chk hi
  have hl := pI_lt (i + 1) (by omega)
  exact eu_sum k (by omega) (by omega) (late_a hi h1 (by rw [pI_s] at h2; exact h2))
theorem turn_len {H : Int → Of_} {p q : Int} (h0 : 0 ≤ p) (hpq : p < q) {o o' : Of_} (h1 : ∀ t, p ≤ t → t < q → H t = o) (h2 : H q = o') (hne : o ≠ o') : turnsN H q.toNat = turnsN H p.toNat ++ [offAt (H q) q] := by
  obtain ⟨m, rfl⟩ : ∃ m : Nat, (m : Int) = p := ⟨p.toNat, by omega⟩
  obtain ⟨n, rfl⟩ : ∃ n : Nat, (n : Int) + 1 = q := ⟨q.toNat - 1, by omega⟩
  have := turnsN_turn (H := H) (m := m) (n := n) (by omega) (fun t q1 q2 => by rw [h1 t (by omega) (by omega), h1 (t + 1) (by omega) (by omega)]) (by rw [h1 n (by omega) (by omega), h2]; exact hne)
  rw [show ((n : Int) + 1).toNat = n + 1 by omega, Int.toNat_natCast]
  exact this
theorem eu_len (k : Nat) : ∀ i : Nat, i ≤ 44 → (turnsN (zoneO (euD k (-1) sOld) (euZ k)) (pI i).toNat).length = 2 + 2 * i
  | 0, _ => by
    have h := turn_len (H := zoneO (euD k (-1) sOld) (euZ k)) (p := 0) (q := 500000000) (by omega) (by omega) (o := ⟨1800, 0, sLMT⟩) (o' := ⟨3600, 0, sCEST⟩) (fun t q1 q2 => eu_one k q1 q2) (H_win k (i := 0) (by omega) (by rw [← tab_end.2.2]; exact Int.le_refl _) (fun _ => by have := (tab_chk (i := 0) (by omega)).1; rw [← tab_end.2.2] at this; simpa using this) (by omega)) (by intro e; injection e with e; exact absurd e (by decide))
    rw [← tab_end.2.2, h]
    rfl
  | i + 1, hi => by
    have ih := eu_len k i (by omega)
    have hc := tab_chk (i := i) (by omega)
    have hg := pI_ge i (by omega)
    have hl := pI_lt (i + 1) hi
    have h1 := turn_len (H := zoneO (euD k (-1) sOld) (euZ k)) (p := pI i) (q := gA (1986 + i)) (by omega) (by omega) (o := ⟨3600, 0, sCEST⟩) (o' := ⟨7200, 3600, sCEDT⟩) (fun t q1 q2 => H_win k (i := i) (by omega) q1 (fun _ => q2) (by omega)) (H_sum k (i := i) (by omega) (Int.le_refl _) (by omega)) (by intro e; injection e with e; exact absurd e (by decide))
    have h2 := turn_len (H := zoneO (euD k (-1) sOld) (euZ k)) (p := gA (1986 + i)) (q := pI (i + 1)) (by omega) (by omega) (o := ⟨7200, 3600, sCEDT⟩) (o' := ⟨3600, 0, sCEST⟩) (fun t q1 q2 => H_sum k (i := i) (by omega) q1 q2) (H_win k (i := i + 1) hi (Int.le_refl _) (fun h => (tab_chk h).1) hl) (by intro e; injection e with e; exact absurd e (by decide))
    rw [h2, h1]
    simp only [List.length_append, List.length_cons, List.length_nil, ih]
    omega
/-- the table of Town. -/
theorem eu_tab (k : Nat) : (tabN (euD k (-1) sOld) sTown).length = 90 ∧ (∀ y, (tabN (euD k (-1) sOld) sTown)[0]? = some y → y.a = 0) ∧ (∀ y, (tabN (euD k (-1) sOld) sTown)[1]? = some y → y.a = 500000000) := by
  obtain ⟨hk, he⟩ := eu_lead (k := k) (nm := sTown) (v := 0) (by kernel_rfl) (by omega)
  obtain ⟨z, hzm, ht, hzq⟩ := tab_is he
  have hz : z = euZ k := by
    rw [hk] at hzq
    have : (euD k (-1) sOld).zs[(0 : Int).toNat]? = some (euZ k) := rfl
    rw [this] at hzq
    injection hzq with hzq
    exact hzq.symm
  subst hz
  rw [ht]
  obtain ⟨n, hn⟩ : ∃ n : Nat, n = 1893455999 := ⟨_, rfl⟩
  rw [← hn]
  have hfull : turnsN (zoneO (euD k (-1) sOld) (euZ k)) n = turnsN (zoneO (euD k (-1) sOld) (euZ k)) (pI 44).toNat := by
    have h1 := pI_lt 44 (by omega)
    have h2 := pI_ge 44 (by omega)
    refine turnsN_same n (by omega) fun t q1 q2 => ?_
    rw [H_win k (i := 44) (by omega) (by omega) (fun h => absurd h (by omega)) (by omega), H_win k (i := 44) (by omega) (by omega) (fun h => absurd h (by omega)) (by omega)]
  have hf : FineL (turnsN (zoneO (euD k (-1) sOld) (euZ k)) n) := turnsN_fine (by omega)
  refine ⟨by rw [hfull, eu_len k 44 (by omega)], hf.first, fun y hy => ?_⟩
  obtain ⟨m, hm⟩ : ∃ m : Nat, (m : Int) = 500000000 := ⟨500000000, rfl⟩
  obtain ⟨r, hr, _⟩ := turnsN_pre (H := zoneO (euD k (-1) sOld) (euZ k)) (m := m) n (by omega)
  have h := turn_len (H := zoneO (euD k (-1) sOld) (euZ k)) (p := 0) (q := m) (by omega) (by omega) (o := ⟨1800, 0, sLMT⟩) (o' := ⟨3600, 0, sCEST⟩) (fun t q1 q2 => eu_one k q1 (by omega)) (H_win k (i := 0) (by omega) (by rw [← tab_end.2.2]; omega) (fun _ => by have := (tab_chk (i := 0) (by omega)).1; rw [← tab_end.2.2] at this; simp at this ⊢; omega) (by omega)) (by intro e; injection e with e; exact absurd e (by decide))
  rw [Int.toNat_natCast] at h
  rw [hr, h] at hy
  have hy : some (offAt (zoneO (euD k (-1) sOld) (euZ k) m) m) = some y := hy
  injection hy with hy
  rw [← hy]
  exact hm
end Gno
end
/-! What must be in any case of tables. -/
section
set_option linter.unusedVariables false
set_option linter.unusedSimpArgs false
namespace Go.Proofs.YtlngalmdidaahaaGreatDoor
open Go.RowKit Gno
set_option maxRecDepth 100000 in
set_option maxHeartbeats 4000000 in
theorem tableBegun_any (w : World) (hM : MaxAt w w.heap.size) :
    Calls Tryz.prog 17 #[] w fun e w' => e = .returned (.bool true) ∧ Below w.heap.size w w' := by
  have SP := Lib.hid eu_mk
  have NX : Hid (∀ {w1 : World}, Below w.heap.size w w1 → Below w.heap.size w (euW w1)) := Lib.hid (fun h => euW_next h)
  have MX : Hid (∀ {w1 : World}, Below w.heap.size w w1 → MaxAt w1 w1.heap.size) := Lib.hid (fun h => hM.next h)
  have CT : Hid (∀ W, MaxAt (euW W) (euW W).heap.size → Calls Tryz.prog 13 #[.agg #[.slice (some ⟨W.heap.size + 2, 0, none⟩) 1 1, .slice (some ⟨W.heap.size + 5, 0, none⟩) 2 2, .slice (some ⟨W.heap.size + 6, 0, none⟩) 2 2], .string ⟨#[84, 111, 119, 110]⟩] (euW W) fun e w' => ∃ A cap, e = .returned (.tuple #[.slice A 90 cap, .int .i64 0]) ∧ TurnsAt w' w'.heap.size A 90 (tabN (euD W.heap.size (-1) sOld) sTown) ∧ Below (euW W).heap.size (euW W) w') := Lib.hid (fun W h => by
    have := compile_any (euD W.heap.size (-1) sOld) sTown (euW W) (eu_data (euW_in W) (by rw [euW_size]; omega) old_le) h
    rw [(eu_tab W.heap.size).1, (eu_lead (k := W.heap.size) (nm := sTown) (v := 0) (by kernel_rfl) (by omega)).2] at this
    exact this)
  clear hM
  have h0 := Below.refl w.heap.size w
  go_enter Tryz.func17, Tryz.ntmps17
  go_wp2_with fail
  refine (SP.out _).mono ?_
  rintro e w' ⟨rfl, rfl⟩
  go_wp2_with fail
  refine (CT.out _ (MX.out (NX.out h0))).mono ?_
  rintro e u1 ⟨A, cap, rfl, hT, hb⟩
  obtain ⟨b, o, y0, hA, _, hy0, _, hc0⟩ := turns_get hT (i := 0) (by omega)
  obtain ⟨b', o', y1, hA', _, hy1, _, hc1⟩ := turns_get hT (i := 1) (by omega)
  rw [hA] at hA'
  injection hA' with hA'
  injection hA' with q1 q2 _
  subst q1
  subst q2
  subst hA
  have e0 := (eu_tab w.heap.size).2.1 y0 hy0
  have e1 := (eu_tab w.heap.size).2.2 y1 hy1
  have ha := eu_a w.heap.size
  have ht := tab_tells ha.1
  have HT := Lib.hid hT
  have LK : Hid (∀ W, Below u1.heap.size u1 W → Calls Tryz.prog 14 #[.slice (some ⟨b, o, none⟩) 90 cap, .int .i64 1585443600] W fun e w' => e = .returned (.tuple #[.agg #[.int .i64 7200, .int .i64 3600, .string ⟨#[67, 69, 68, 84]⟩], .int .i64 0]) ∧ Below W.heap.size W w') := Lib.hid (fun W h => by
    have := look_any (some ⟨b, o, none⟩) 90 cap _ 1585443600 W (HT.out.next h) (by omega)
    rw [ht.1, ht.2.1, ht.2.2.1, ht.2.2.2, ha.2.1, ha.2.2.1, ha.2.2.2] at this
    exact this)
  have LN : Hid (∀ W, Calls Tryz.prog 14 #[.slice (some ⟨b, o, none⟩) 0 cap, .int .i64 5] W fun e w' => e = .returned (.tuple #[.agg #[.int .i64 0, .int .i64 0, .string ⟨#[]⟩], .int .i64 1]) ∧ Below W.heap.size W w') := Lib.hid (fun W => by
    have := look_any (some ⟨b, o, none⟩) 0 cap [] 5 W ⟨rfl, by unfold maxLen; omega, fun h => absurd h (by omega)⟩ (by omega)
    have hE : lookE [] 5 = 1 := by unfold lookE; rw [fineB_no (fun h => by have := h.pos; simp at this)]; rfl
    rw [lookY_bad hE (by decide), hE] at this
    exact this)
  have hb1 : Below w.heap.size w u1 := (NX.out h0).trans (hb.mono (NX.out h0).size)
  have HC : Hid (∀ W, Below u1.heap.size u1 W → W.cell? ⟨b, o, none⟩ = some (.int .i64 0) ∧ W.cell? ⟨b, o + 4, none⟩ = some (.int .i64 500000000)) := Lib.hid (fun W h => by
    have c0 := (hc0 W h).1
    have c1 := (hc1 W h).1
    rw [e0, show o + 0 * 4 = o by omega] at c0
    rw [e1, show o + 1 * 4 = o + 4 by omega] at c1
    exact ⟨c0, c1⟩)
  have HB1 := Lib.hid hb1
  clear hT hy0 hy1 hc0 hc1 e0 e1 ha ht HT hb hb1 h0 CT NX MX SP
  go_wp2_with fail
  refine (LK.out _ (Below.refl _ _)).mono ?_
  rintro e u2 ⟨rfl, h2⟩
  have H2 : Hid (Below u1.heap.size u1 (u2.alloc (.cells #[.int .i64 7200, .int .i64 3600, .string ⟨#[67, 69, 68, 84]⟩] 28))) := Lib.hid (h2.alloc h2.size _)
  have HO : Hid (∀ W, Below (u2.heap.size + 1) (u2.alloc (.cells #[.int .i64 7200, .int .i64 3600, .string ⟨#[67, 69, 68, 84]⟩] 28)) W → Below u1.heap.size u1 W ∧ W.cell? ⟨u2.heap.size, 0, none⟩ = some (.int .i64 7200) ∧ W.cell? ⟨u2.heap.size, 1, none⟩ = some (.int .i64 3600) ∧ W.cell? ⟨u2.heap.size, 2, none⟩ = some (.string ⟨#[67, 69, 68, 84]⟩)) := Lib.hid (fun W h => by
    have k := (h.block u2.heap.size (by simp)).trans (World.alloc_heap_new u2 _)
    exact ⟨H2.out.trans (h.mono (by have := h2.size; omega)), cell_of k rfl, cell_of k rfl, cell_of k rfl⟩)
  clear h2
  go_wp2_with fail
  refine (LN.out _).mono ?_
  rintro e u3 ⟨rfl, h3⟩
  have h4 : Below (u2.heap.size + 1) (u2.alloc (.cells #[.int .i64 7200, .int .i64 3600, .string ⟨#[67, 69, 68, 84]⟩] 28)) (u3.alloc (.cells #[.int .i64 0, .int .i64 0, .string ⟨#[]⟩] 28)) := Below.alloc (h3.mono (by simp)) (by have := h3.size; simpa using this) _
  obtain ⟨h5, o0, o1, o2'⟩ := HO.out _ h4
  obtain ⟨c0, c1⟩ := HC.out _ h5
  have HB := Lib.hid (HB1.out.trans (h5.mono HB1.out.size))
  clear h3 h4 h5
  go_wp2
  go_ret
  exact ⟨rfl, HB.out⟩
end Go.Proofs.YtlngalmdidaahaaGreatDoor
end
