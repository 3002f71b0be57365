/- Parts of a proof, laid together. -/
import Derived.Maps.OwnOps
import Derived.Maps.OwnSet
import Derived.Maps.Views
import Derived.Lib.AppendZeros
import Derived.Laws.AppendOwnNone
import Derived.Test.YthhjgndaiimgjaaGreatDoorMUSrcB5
set_option linter.unusedSimpArgs false
set_option linter.unusedVariables false
/-! A map that counts texts. -/
section
set_option linter.unusedVariables false
set_option linter.unusedSimpArgs false
namespace Gno
open Go Go.Maps
def cntN (s : ByteArray) (l : List ByteArray) : Nat := (l.filter fun x => same s x).length
/-- the map tells how often each text stands in l. -/
def Cnt (D : DataW Unit) (l : List ByteArray) : Prop := ∀ s : ByteArray, D.atKey (.string s.data.toList) (.lit (.int .i64 0)) = .lit (.int .i64 (cntN s l))
theorem cntN_le (s : ByteArray) (l : List ByteArray) : cntN s l ≤ l.length := List.length_filter_le _ _
theorem Cnt.start : Cnt (.map []) [] := fun s => rfl
theorem cntN_snoc (s v : ByteArray) (l : List ByteArray) : cntN s (l ++ [v]) = cntN s l + if same s v = true then 1 else 0 := by
  unfold cntN
  rw [List.filter_append, List.length_append]
  by_cases h : same s v = true <;> simp [h]
theorem Cnt.put {D : DataW Unit} {l : List ByteArray} (h : Cnt D l) (hm : IsMap D) (v : ByteArray) : Cnt (D.put (.string v.data.toList) (.lit (.int .i64 ((cntN v l : Nat) + 1 : Int)))) (l ++ [v]) := by
  intro s
  rw [cntN_snoc]
  by_cases e : same s v = true
  · rw [if_pos e]
    rw [same_iff] at e
    subst e
    rw [atKey_put_same hm (show Go.WideAt.IsKeyLit (.string s.data.toList) from trivial)]
    rfl
  · have hne : (Lit.string s.data.toList) ≠ .string v.data.toList := fun h2 => e ((same_iff _ _).2 (ByteArray.ext (Array.toList_inj.1 (by injection h2))))
    rw [if_neg e, atKey_put_other hne, h s, Nat.add_zero]
theorem cntN_zero {s : ByteArray} {l : List ByteArray} : cntN s l = 0 ↔ (l.any fun x => same s x) = false := by
  unfold cntN
  rw [List.length_eq_zero_iff, List.filter_eq_nil_iff, List.any_eq_false]
theorem among_cnt {l : List ByteArray} {v : ByteArray} {i : Nat} : amongTo l v i = decide (0 < cntN v (l.take i)) := by
  unfold amongTo
  have := cntN_zero (s := v) (l := l.take i)
  cases h : (List.take i l).any fun x => same v x
  · have := this.2 h; simp [this]
  · have h2 : cntN v (l.take i) ≠ 0 := fun e => by rw [this.1 e] at h; cases h
    simp; omega
end Gno
namespace Go
open Go.RowKit
theorem World.ownsMap.below {H : Type} {w w' : World} {P : Program} {k : TypeId} {R : Value → Option (DataW H × List MemPlace)} {b n : Nat} {D : DataW H} {B : Nat} (h : w.ownsMap P k R b n D) (hb : Below B w w') (hB : b < B) : w'.ownsMap P k R b n D := by
  obtain ⟨es, clock, h0, F, hs, hD⟩ := h
  exact ⟨es, clock, (hb.block b hB).trans h0, F, hs, hD⟩
end Go
namespace Go.Proofs.YthhjgndaiimgjaaGreatDoor
open Go.RowKit Gno Go.Maps
theorem lawStr : Keyed Tryz.prog 9 := string_keyed Tryz.underlying9
theorem zeroInt (w : World) : (zeroValue 3).run Tryz.prog w = .ok (.int .i64 0) w := by kernel_rfl
theorem cnt_at {D : DataW Unit} {l : List ByteArray} {v : ByteArray} {m : Nat} {c : Int} (h : Cnt D l) (hm : cntN v l = m) (hat : D.atKey (.string v.data.toList) (.lit (.int .i64 0)) = .lit (.int .i64 c)) : c = (m : Int) := by
  have := (h v).symm.trans hat
  rw [hm] at this
  injection this with h1
  injection h1 with _ h2
  exact h2.symm
end Go.Proofs.YthhjgndaiimgjaaGreatDoor
end
/-! slices.Index, Contains, Grow, Concat at texts; data.alike. -/
section
set_option linter.unusedVariables false
set_option linter.unusedSimpArgs false
namespace Gno
open Go
def hasS (l : List ByteArray) (s : ByteArray) : Bool := hasP (same s) l
/-- how many differ among the first i. -/
def dist : List ByteArray → Nat → Nat
  | _, 0 => 0
  | l, i + 1 => dist l i + (match l[i]? with | some v => if amongTo l v i = true then 0 else 1 | none => 0)
theorem dist_le (l : List ByteArray) : ∀ i, dist l i ≤ i
  | 0 => Nat.le_refl _
  | i + 1 => by
    have := dist_le l i
    rw [dist]
    cases l[i]? with
    | none => simp only; omega
    | some v => simp only; split <;> omega
theorem dist_dup {l : List ByteArray} : ∀ i, i ≤ l.length → (dupTo l i = decide (dist l i < i))
  | 0, _ => rfl
  | i + 1, h => by
    have ih := dist_dup (l := l) i (by omega)
    have hle := dist_le l i
    obtain ⟨v, hv⟩ : ∃ v, l[i]? = some v := ⟨_, List.getElem?_eq_getElem (by omega)⟩
    rw [dupTo, dist, ih, hv]
    simp only
    by_cases ha : amongTo l v i = true
    · simp [ha]; omega
    · simp [ha]
theorem dist_step {l : List ByteArray} {i : Nat} {v : ByteArray} (h : l[i]? = some v) : dist l (i + 1) = dist l i + if amongTo l v i = true then 0 else 1 := by
  rw [dist, h]
end Gno
namespace Go.Proofs.YthhjgndaiimgjaaGreatDoor
open Go.RowKit Gno Go.Maps Go.WideMaps
theorem StrsAt.get {w : World} {B : Nat} {A : Option Addr} {n : Nat} {l : List ByteArray} (h : StrsAt w B A n l) {i : Nat} (hi : i < n) :
    ∃ b o s, A = some ⟨b, o, none⟩ ∧ b < B ∧ l[i]? = some s ∧ ∀ W, Below B w W → W.cell? ⟨b, o + i, none⟩ = some (.string s) := by
  obtain ⟨b, o, hA, hbB, hc⟩ := h.2.2 (by omega)
  have hl : i < l.length := by rw [h.1]; exact hi
  exact ⟨b, o, l[i], hA, hbB, List.getElem?_eq_getElem hl, fun W hW => (hW.cell hbB).trans (hc i _ (List.getElem?_eq_getElem hl))⟩
set_option maxRecDepth 100000 in
set_option maxHeartbeats 4000000 in
theorem indexStr_any (A : Option Addr) (n cap : Nat) (l : List ByteArray) (s : ByteArray) (w : World) (hR : StrsAt w w.heap.size A n l) :
    Calls Tryz.prog 81 #[.slice A n cap, .string s] w fun e w' => e = .returned (.int .i64 (fst (same s) l 0)) ∧ Below w.heap.size w w' := by
  have hn : n ≤ 9223372036854775807 := hR.2.1
  have HR := Lib.hid hR
  clear hR
  go_enter Tryz.func81, Tryz.ntmps81
  go_wp2
  go_loopw [8] (fun b0 wr => ∃ i : Nat, i ≤ n ∧ b0 = .int .i64 i ∧ Hid (fst (same s) (l.drop i) i = fst (same s) l 0) ∧ Below w.heap.size w wr) (fun b0 _ => n - (intOf b0).toNat)
  case atStart => exact ⟨0, Nat.zero_le _, rfl, Lib.hid (by simp), Below.refl _ _⟩
  case round =>
    obtain ⟨i, hi, rfl, hfd, hb⟩ := hrel
    by_cases hlt : i < n
    · obtain ⟨b, o, v, hA, hbB, hv, hvv⟩ := StrsAt.get HR.out hlt
      subst hA
      have e0 := hvv _ hb
      have FD := Lib.hid (fst_drop (p := same s) hv)
      clear hv hvv
      cases hpk : same s v
      · have HX := Lib.hid ((FD.out.2 hpk).symm.trans hfd.out)
        have hq : (s.toList == v.toList) = false := hpk
        clear hfd hpk
        go_wp2
        go_roundw
        case rel => exact ⟨i + 1, by omega, by go_num, HX, hb⟩
        case measure => simp [intOf]; omega
      · have HX := Lib.hid ((FD.out.1 hpk).symm.trans hfd.out)
        have hq : (s.toList == v.toList) = true := hpk
        clear hfd hpk
        go_wp2
        go_ret
        exact ⟨ret_int HX.out, hb⟩
    · have HX := Lib.hid ((fst_end (p := same s) (by have := HR.out.1; omega)).symm.trans hfd.out)
      go_wp2
      go_ret
      exact ⟨ret_int HX.out, hb⟩
theorem containsStr_any (A : Option Addr) (n cap : Nat) (l : List ByteArray) (s : ByteArray) (w : World) (hR : StrsAt w w.heap.size A n l) :
    Calls Tryz.prog 50 #[.slice A n cap, .string s] w fun e w' => e = .returned (.bool (hasS l s)) ∧ Below w.heap.size w w' := by
  have C := Lib.hid (indexStr_any A n cap l s w hR)
  clear hR
  go_enter Tryz.func50, Tryz.ntmps50
  go_wp2_with (go_at_call 81; (with_reducible refine C.out.mono ?_); rintro e w4 ⟨rfl, hb4⟩)
  go_ret
  exact ⟨ret_bool rfl, hb4⟩
set_option maxRecDepth 100000 in
set_option maxHeartbeats 4000000 in
theorem grow_any (n : Nat) (w : World) (hn : n ≤ 1000000) :
    Calls Tryz.prog 71 #[.slice none 0 0, .int .i64 n] w fun e w' => ∃ v, e = .returned v ∧ w'.ownsRow w.heap.size 9 1 v 0 [] ∧ Below w.heap.size w w' := by
  obtain ⟨i0, hi, hz0, hz1, hz2⟩ := info_parts infoStr
  by_cases h0 : n = 0
  · subst h0
    go_enter Tryz.func71, Tryz.ntmps71
    go_wp2
    go_ret
    exact ⟨_, rfl, World.ownsRow_nil _ _ _ _, Below.refl _ _⟩
  · have hr := fun (W : World) => Lib.run_append_nil_zeros (P := Tryz.prog) W 63 3 63 9 i0 (.string ⟨#[]⟩) .i64 .i64 Tryz.underlying63 Tryz.underlying3 hi hz0 n (by omega) (by rw [hz1]; decide) (by omega) (by rw [hz2]; omega)
    have HR := Lib.hid hr
    have hn1 : 1 ≤ n := by omega
    clear hr hi hz0 hz1 hz2 h0
    go_enter Tryz.func71, Tryz.ntmps71
    go_wp2_with (at_builtin; go_must (refine Lib.wpList_append_run _ rfl _ _ _ _ rfl _ _ rfl rfl _ _ (HR.out _) ?_))
    go_ret
    refine ⟨_, rfl, ?_, ((Below.refl _ _).alloc (Nat.le_refl _) _).drew⟩
    have hg := grownCap_ge w n 0 9
    have hg2 := grownCap_le_maxLen w n 0 9 (by unfold maxLen; omega)
    exact World.ownsRow_made w _ _ (Nat.le_refl _) hg2 (by simp [size_zeroCells]; omega)
/-- slices of texts, as parts. -/
structure _root_.Gno.Pt where
  A : Option Addr
  n : Nat
  cap : Nat
  l : List ByteArray
def flat (ps : List Pt) : List ByteArray := ps.flatMap fun p => p.l
def total (ps : List Pt) : Nat := (ps.map fun p => p.n).sum
def PtsAt (w : World) (B b : Nat) (ps : List Pt) : Prop := b < B ∧ ∀ j p, ps[j]? = some p → w.cell? ⟨b, j, none⟩ = some (.slice p.A p.n p.cap) ∧ StrsAt w B p.A p.n p.l ∧ (p.A = none → p.n = 0 ∧ p.cap = 0)
theorem PtsAt.below {w w' : World} {B b : Nat} {ps : List Pt} (h : PtsAt w B b ps) (hb : Below B w w') : PtsAt w' B b ps :=
  ⟨h.1, fun j p hp => ⟨(hb.cell h.1).trans (h.2 j p hp).1, (h.2 j p hp).2.1.below hb (Nat.le_refl _), (h.2 j p hp).2.2⟩⟩
theorem strs_cells {w : World} {B : Nat} {ad : Addr} {n : Nat} {l : List ByteArray} (h : StrsAt w B (some ad) n l) : ∀ j u, (strs l)[j]? = some u → w.cell? (ad.add j) = some u := by
  intro j u hj
  have hjl : j < l.length := by have := (List.getElem?_eq_some_iff.1 hj).1; simpa [strs] using this
  obtain ⟨b, o, hA, hbB, hc⟩ := h.2.2 (by rw [← h.1]; omega)
  injection hA with hA
  subst hA
  rw [Go.WideShapes.add_plain]
  obtain ⟨s, hs⟩ : ∃ s, l[j]? = some s := ⟨_, List.getElem?_eq_getElem hjl⟩
  simp [strs, hs] at hj
  rw [← hj]; exact hc j s hs
theorem total_take {ps : List Pt} {k : Nat} {p : Pt} (h : ps[k]? = some p) : total (ps.take (k + 1)) = total (ps.take k) + p.n := by
  rw [take_snoc' h]; simp [total]
theorem total_le (ps : List Pt) : ∀ k, total (ps.take k) ≤ total ps := by
  intro k
  have h : total ps = total (ps.take k) + total (ps.drop k) := by
    have : total (ps.take k ++ ps.drop k) = total (ps.take k) + total (ps.drop k) := by simp only [total, List.map_append, List.sum_append]
    rwa [List.take_append_drop] at this
  omega
theorem flat_take {ps : List Pt} {k : Nat} {p : Pt} (h : ps[k]? = some p) : flat (ps.take (k + 1)) = flat (ps.take k) ++ p.l := by
  rw [take_snoc' h]; simp [flat]
set_option maxRecDepth 100000 in
set_option maxHeartbeats 4000000 in
theorem concat_any (b m : Nat) (ps : List Pt) (w : World) (hP : PtsAt w w.heap.size b ps) (hm : ps.length = m) (ht : total ps ≤ 1000000) (hm2 : m ≤ 1000000) :
    Calls Tryz.prog 43 #[.slice (some ⟨b, 0, none⟩) m m] w fun e w' => ∃ v, e = .returned v ∧ w'.ownsRow w.heap.size 9 1 v (total ps) (strs (flat ps)) ∧ Below w.heap.size w w' := by
  obtain ⟨i0, hi, hz0, hz1, hz2⟩ := info_parts infoStr
  have hI := Lib.hid hi
  have hZ0 := Lib.hid hz0
  have hZ1 := Lib.hid hz1
  have hZ2 := Lib.hid hz2
  clear hi hz0 hz1 hz2
  have HP := Lib.hid hP
  have HM := Lib.hid hm
  have TL := Lib.hid (total_le ps)
  clear hP hm
  obtain ⟨T, hT⟩ : ∃ T, T = total ps := ⟨_, rfl⟩
  rw [← hT] at ht ⊢
  have HT := Lib.hid hT
  clear hT
  go_enter Tryz.func43, Tryz.ntmps43
  go_wp2
  go_loopw [3, 5, 11] (fun b3 _ b11 wr => ∃ (k s : Nat), k ≤ m ∧ s ≤ T ∧ b11 = .int .i64 k ∧ b3 = .int .i64 s ∧ Hid (s = total (ps.take k)) ∧ w = wr) (fun _ _ b11 _ => m - (intOf b11).toNat)
  case atStart => exact ⟨0, 0, Nat.zero_le _, Nat.zero_le _, rfl, rfl, Lib.hid rfl, rfl⟩
  case round =>
    obtain ⟨k, s, hk, hs, rfl, rfl, hst, rfl⟩ := hrel
    by_cases hlt : k < m
    · obtain ⟨p, hp⟩ : ∃ p, ps[k]? = some p := ⟨_, List.getElem?_eq_getElem (by rw [HM.out]; exact hlt)⟩
      obtain ⟨e0, hsp, _⟩ := HP.out.2 k p hp
      have HX := Lib.hid (show s + p.n = total (ps.take (k + 1)) by rw [total_take hp, hst.out])
      have hs2 : s + p.n ≤ T := by have h1 := TL.out (k + 1); have h2 := HX.out; have h3 := HT.out; omega
      clear hst hsp hp
      go_wp2
      go_roundw
      case rel => exact ⟨k + 1, s + p.n, by omega, hs2, by go_num, by go_num, HX, trivial⟩
      case measure => simp [intOf]; omega
    · have hsT : s = T := by rw [hst.out, HT.out, List.take_of_length_le (by rw [HM.out]; omega)]
      subst hsT
      have G := Lib.hid (grow_any s w (by omega))
      clear hst
      go_wp2_with (go_at_call 71; (with_reducible refine G.out.mono ?_); rintro e w1 ⟨v1, rfl, hown1, hb1⟩)
      go_loopw [6, 8, 27] (fun b6 _ b27 wr => ∃ (k t : Nat), k ≤ m ∧ t ≤ s ∧ b27 = .int .i64 k ∧ Hid (t = total (ps.take k)) ∧ wr.ownsRow w.heap.size 9 1 b6 t (strs (flat (ps.take k))) ∧ Below w.heap.size w wr) (fun _ _ b27 _ => m - (intOf b27).toNat)
      case atStart => exact ⟨0, 0, Nat.zero_le _, Nat.zero_le _, rfl, Lib.hid rfl, hown1, hb1⟩
      case round =>
        clear hown1 hb1
        obtain ⟨k, t, hk, hts, rfl, htt, hown, hb⟩ := hrel
        by_cases hlt : k < m
        · obtain ⟨p, hp⟩ : ∃ p, ps[k]? = some p := ⟨_, List.getElem?_eq_getElem (by rw [HM.out]; exact hlt)⟩
          obtain ⟨e0, hsp, hnil⟩ := (HP.out.below hb).2 k p hp
          have HX := Lib.hid (show t + p.n = total (ps.take (k + 1)) by rw [total_take hp, htt.out])
          have hs2 : t + p.n ≤ s := by have h1 := TL.out (k + 1); have h2 := HX.out; have h3 := HT.out; omega
          have HF := Lib.hid (show strs (flat (ps.take (k + 1))) = strs (flat (ps.take k)) ++ strs p.l by rw [flat_take hp]; simp [strs])
          have HL : Hid ((strs p.l).length = p.n * 1) := Lib.hid (by rw [Nat.mul_one, ← hsp.1]; simp [strs])
          have HOC : Hid (∀ u ∈ strs p.l, u.oneCell' = true) := Lib.hid (fun u hu => by
            simp only [strs, List.mem_map] at hu
            obtain ⟨q, _, rfl⟩ := hu
            rfl)
          clear htt
          cases hA : p.A with
          | none =>
            obtain ⟨hn0, hc0⟩ := hnil hA
            rw [hA, hn0, hc0] at e0
            have HE : Hid (strs p.l = []) := Lib.hid (by
              have := HL.out
              rw [hn0] at this
              exact List.length_eq_zero_iff.1 this)
            rw [hn0, Nat.add_zero] at HX
            rw [HE.out, List.append_nil] at HF
            clear hA hn0 hc0 hnil hsp hp HL HOC HE hs2
            go_wp2_with (at_builtin; go_must (refine wpList_append_own_none rfl _ _ 63 rfl w.heap.size 9 i0 1 Tryz.underlying63 hI.out _ t _ rfl hown rfl ?_))
            go_roundw
            case rel => exact ⟨k + 1, t, by omega, hts, by go_num, HX, by rw [HF.out]; exact hown, hb⟩
            case measure => simp [intOf]; omega
          | some ad =>
            rw [hA] at e0 hsp
            have HC := Lib.hid (strs_cells hsp)
            clear hA hnil hsp hp
            go_wp2_with (at_builtin; go_must (refine wpList_append_own _ rfl _ _ 63 rfl w.heap.size 9 i0 (.string ⟨#[]⟩) 1 16 Tryz.underlying63 hI.out hZ0.out hZ1.out hZ2.out rfl (by decide) _ t _ rfl hown ad p.n p.cap (strs p.l) rfl HL.out HC.out HOC.out (by unfold maxLen; omega) (by omega) hb.size ?_); intro v' w2 hown2 hgrow2 _)
            have hb2 := hb.grown hgrow2 hb.size (fun q hq => (hown.lt q hq).1)
            go_roundw
            case rel => exact ⟨k + 1, t + p.n, by omega, hs2, by go_num, HX, by rw [HF.out]; exact hown2, hb2⟩
            case measure => simp [intOf]; omega
        · have hown2 : wr.ownsRow w.heap.size 9 1 u6 s (strs (flat ps)) := by
            have h1 := hown
            have h2 : ps.take k = ps := List.take_of_length_le (by rw [HM.out]; omega)
            have h3 := htt.out
            rw [h2] at h1 h3
            rw [HT.out, ← h3]; exact h1
          clear hown htt
          go_wp2
          go_ret
          exact ⟨_, rfl, hown2, hb⟩
end Go.Proofs.YthhjgndaiimgjaaGreatDoor
end
/-! data.alike. -/
section
set_option linter.unusedVariables false
set_option linter.unusedSimpArgs false
namespace Gno
open Go Go.Maps
def CntH (D : DataW Unit) (l : List ByteArray) : Prop := ∀ s : ByteArray, Maps.has D (.string s.data.toList) = decide (0 < cntN s l)
theorem CntH.start : CntH (.map []) [] := fun s => rfl
theorem CntH.put {D : DataW Unit} {l : List ByteArray} (h : CntH D l) (hm : IsMap D) (v : ByteArray) (x : DataW Unit) : CntH (D.put (.string v.data.toList) x) (l ++ [v]) := by
  intro s
  rw [cntN_snoc]
  by_cases e : same s v = true
  · rw [if_pos e]
    rw [same_iff] at e
    subst e
    rw [has_put_same hm (show Go.WideAt.IsKeyLit (.string s.data.toList) from trivial)]
    simp
  · have hne : (Lit.string s.data.toList) ≠ .string v.data.toList := fun h2 => e ((same_iff _ _).2 (ByteArray.ext (Array.toList_inj.1 (by injection h2))))
    rw [if_neg e, has_put_other hne, h s, Nat.add_zero]
end Gno
namespace Go.Proofs.YthhjgndaiimgjaaGreatDoor
open Go.RowKit Gno Go.Maps Go.WideMaps
theorem size_step {D : DataW Unit} {l : List ByteArray} {i : Nat} {v : ByteArray} (hv : l[i]? = some v) (h : CntH D (l.take i)) (ht : Tidy D) (hs : Maps.size D = dist l i) (x : DataW Unit) : Maps.size (D.put (.string v.data.toList) x) = dist l (i + 1) := by
  rw [size_put ht x, h v, dist_step hv, hs, ← among_cnt]
  split <;> simp_all
set_option maxRecDepth 100000 in
set_option maxHeartbeats 8000000 in
theorem alike_any (A : Option Addr) (n cap : Nat) (l : List ByteArray) (w : World) (hR : StrsAt w w.heap.size A n l) (hn : n ≤ 1000000) (hs : ∀ s ∈ l, s.size ≤ maxLen) :
    Calls Tryz.prog 45 #[.slice A n cap] w fun e w' => e = .returned (.bool (dup l)) ∧ Below w.heap.size w w' := by
  have hmm := @run_makeMap Tryz.prog
  have HR := Lib.hid hR
  have HS := Lib.hid hs
  clear hR hs
  go_enter Tryz.func45, Tryz.ntmps45
  go_wp2
  go_loopw [9] (fun b9 wr => ∃ (i : Nat) (D : DataW Unit), i ≤ n ∧ b9 = .int .i64 i ∧ Hid (Cnt D (l.take i)) ∧ Hid (CntH D (l.take i)) ∧ Hid (Maps.size D = dist l i) ∧
    wr.ownsMap Tryz.prog 9 (plainElem Tryz.prog 3) w.heap.size i D ∧ Below w.heap.size w wr) (fun b9 _ => n - (intOf b9).toNat)
  case atStart => exact ⟨0, .map [], Nat.zero_le _, rfl, Lib.hid Cnt.start, Lib.hid CntH.start, Lib.hid rfl, World.ownsMap_made _ _ _ _, (Below.refl _ _).alloc (Nat.le_refl _) _⟩
  case round =>
    obtain ⟨i, D, hi, rfl, HC, HH, HZ, hown, hb⟩ := hrel
    by_cases hlt : i < n
    · obtain ⟨b, o, v, hA, hbB, hv, hvv⟩ := StrsAt.get HR.out hlt
      subst hA
      have e0 := hvv _ hb
      have hvs := HS.out v (List.mem_of_getElem? hv)
      have HKEY := Lib.hid (keyOf_string_mk (P := Tryz.prog) Tryz.underlying9 hvs)
      obtain ⟨m, hm⟩ : ∃ m, m = cntN v (l.take i) := ⟨_, rfl⟩
      have hm4 : m ≤ n := by
        have := cntN_le v (l.take i)
        have h2 : (l.take i).length ≤ i := List.length_take_le _ _
        omega
      have HMM := Lib.hid hm.symm
      have HC1 : Hid (Cnt (D.put (.string v.data.toList) (.lit (.int .i64 ((m : Int) + 1)))) (l.take (i + 1))) := Lib.hid (by
        have := HC.out.put hown.isMap v
        rw [HMM.out] at this
        rw [take_snoc' hv]; exact this)
      have HH1 : Hid (CntH (D.put (.string v.data.toList) (.lit (.int .i64 ((m : Int) + 1)))) (l.take (i + 1))) := Lib.hid (by
        rw [take_snoc' hv]; exact HH.out.put hown.isMap v _)
      have HZ1 := Lib.hid (size_step hv HH.out (hown.tidy lawStr) HZ.out (.lit (.int .i64 ((m : Int) + 1))))
      clear hm hvs hv hvv
      go_wp2_with (first
        | (at_lookup; go_must (refine wpList_lookup_own_int _ rfl _ _ 125 rfl 9 3 .i64 lawStr Tryz.underlying125 Tryz.underlying3 (zeroInt _) w.heap.size i _ rfl hown _ _ rfl HKEY.out ?_); intro c hat hwc; obtain rfl := cnt_at HC.out HMM.out hat; clear hat hwc)
        | (at_mapUpdate; go_must (refine wpList_mapUpdate_own _ rfl _ _ _ 125 rfl 9 3 lawStr Tryz.underlying125 _ w.heap.size i _ rfl hown (by unfold maxLen; omega) _ _ _ rfl rfl HKEY.out _ [] (plainElem_int Tryz.underlying3 (WalkArith.wf_i64 (by omega))) ?_); intro w1 hown1 hgrow1)
        | go_in)
      have hb1 := hb.grown hgrow1 hb.size (fun j hj => by cases hj; exact Nat.le_refl _)
      go_roundw
      case rel => exact ⟨i + 1, _, by omega, by go_num, HC1, HH1, HZ1, hown1, hb1⟩
      case measure => simp [intOf]; omega
    · have hin : i = n := by omega
      have HX : Hid (dup l = decide (Maps.size D < n)) := Lib.hid (by
        have hl := HR.out.1
        unfold dup
        rw [dist_dup l.length (Nat.le_refl _), HZ.out, hl, hin])
      clear hin
      go_wp2_with (first
        | (at_len; refine wpList_len_own _ rfl _ _ rfl 9 3 Tryz.underlying125 _ w.heap.size i _ rfl hown ?_)
        | go_in)
      go_ret
      exact ⟨ret_bool HX.out.symm, hb⟩
end Go.Proofs.YthhjgndaiimgjaaGreatDoor
end
