/- Parts of a proof, laid together. -/
import Derived.Maps.OwnOps
import Derived.Maps.OwnSet
import Derived.Maps.Views
import Derived.Lib.AppendZeros
import Derived.Laws.AppendOwnNone
import Derived.KernelRfl
import Derived.Test.YtbbbeldbhlehnaaGreatDoorMUTrB28
set_option linter.unusedSimpArgs false
set_option linter.unusedVariables false
section
namespace Gno
open Go Go.Maps
def cntN (s : ByteArray) (l : List ByteArray) : Nat := (l.filter fun x => same s x).length
def Cnt (D : DataW Unit) (l : List ByteArray) : Prop := ∀ s : ByteArray, D.atKey (.string s.data.toList) (.lit (.int .i64 0)) = .lit (.int .i64 (cntN s l))
theorem cntN_le (s : ByteArray) (l : List ByteArray) : cntN s l ≤ l.length := List.length_filter_le _ _
theorem Cnt.start : Cnt (.map []) [] := fun s => rfl
theorem cntN_snoc (s v : ByteArray) (l : List ByteArray) : cntN s (l ++ [v]) = cntN s l + if same s v = true then 1 else 0 := by
 unfold cntN
 rw [List.filter_append, List.length_append]
 by_cases h : same s v = true <;> simp [h]
theorem Cnt.put {D : DataW Unit} {l : List ByteArray} (h : Cnt D l) (hm : IsMap D) (v : ByteArray) : Cnt (D.put (.string v.data.toList) (.lit (.int .i64 ((cntN v l : Nat) + 1 : Int)))) (l ++ [v]) := by
 intro s
 rw [cntN_snoc]
 by_cases e : same s v = true
 ·rw [if_pos e]
  rw [same_iff] at e
  subst e
  rw [atKey_put_same hm (show Go.WideAt.IsKeyLit (.string s.data.toList) from trivial)]
  rfl
 ·have hne : (Lit.string s.data.toList) ≠ .string v.data.toList := fun h2 => e ((same_iff _ _).2 (ByteArray.ext (Array.toList_inj.1 (by injection h2))))
  rw [if_neg e, atKey_put_other hne, h s, Nat.add_zero]
theorem cntN_zero {s : ByteArray} {l : List ByteArray} : cntN s l = 0 ↔ (l.any fun x => same s x) = false := by
 unfold cntN
 rw [List.length_eq_zero_iff, List.filter_eq_nil_iff, List.any_eq_false]
theorem among_cnt {l : List ByteArray} {v : ByteArray} {i : Nat} : amongTo l v i = decide (0 < cntN v (l.take i)) := by
 unfold amongTo
 have := cntN_zero (s := v) (l := l.take i)
 cases h : (List.take i l).any fun x => same v x
 ·have := this.2 h; simp [this]
 ·have h2 : cntN v (l.take i) ≠ 0 := fun e => by rw [this.1 e] at h; cases h
  simp; omega
end Gno
namespace Go
open Go.RowKit
theorem World.ownsMap.below {H : Type} {w w' : World} {P : Program} {k : TypeId} {R : Value → Option (DataW H × List MemPlace)} {b n : Nat} {D : DataW H} {B : Nat} (h : w.ownsMap P k R b n D) (hb : Below B w w') (hB : b < B) : w'.ownsMap P k R b n D := by
 obtain ⟨es, clock, h0, F, hs, hD⟩ := h
 exact ⟨es, clock, (hb.block b hB).trans h0, F, hs, hD⟩
end Go
namespace Go.Proofs.YtbbbeldbhlehnaaGreatDoor
open Go.RowKit Gno Go.Maps
theorem lawStr : Keyed Tryz.prog 9 := string_keyed Tryz.underlying9
theorem zeroInt (w : World) : (zeroValue 3).run Tryz.prog w = .ok (.int .i64 0) w := by kernel_rfl
theorem cnt_at {D : DataW Unit} {l : List ByteArray} {v : ByteArray} {m : Nat} {c : Int} (h : Cnt D l) (hm : cntN v l = m) (hat : D.atKey (.string v.data.toList) (.lit (.int .i64 0)) = .lit (.int .i64 c)) : c = (m : Int) := by
 have := (h v).symm.trans hat
 rw [hm] at this
 injection this with h1
 injection h1 with _ h2
 exact h2.symm
end Go.Proofs.YtbbbeldbhlehnaaGreatDoor
end
section
namespace Gno
open Go
def hasS (l : List ByteArray) (s : ByteArray) : Bool := hasP (same s) l
def dist : List ByteArray → Nat → Nat
 | _, 0 => 0
 | l, i + 1 => dist l i + (match l[i]? with | some v => if amongTo l v i = true then 0 else 1 | none => 0)
theorem dist_le (l : List ByteArray) : ∀ i, dist l i ≤ i
 | 0 => Nat.le_refl _
 | i + 1 => by
   have := dist_le l i
   rw [dist]
   cases l[i]? with
   | none => simp only; omega
   | some v => simp only; split <;> omega
theorem dist_dup {l : List ByteArray} : ∀ i, i ≤ l.length → (dupTo l i = decide (dist l i < i))
 | 0, _ => rfl
 | i + 1, h => by
   have ih := dist_dup (l := l) i (by omega)
   have hle := dist_le l i
   obtain ⟨v, hv⟩ : ∃ v, l[i]? = some v := ⟨_, List.getElem?_eq_getElem (by omega)⟩
   rw [dupTo, dist, ih, hv]
   simp only
   by_cases ha : amongTo l v i = true
   ·simp [ha]; omega
   ·simp [ha]
theorem dist_step {l : List ByteArray} {i : Nat} {v : ByteArray} (h : l[i]? = some v) : dist l (i + 1) = dist l i + if amongTo l v i = true then 0 else 1 := by
 rw [dist, h]
end Gno
namespace Go.Proofs.YtbbbeldbhlehnaaGreatDoor
open Go.RowKit Gno Go.Maps Go.WideMaps
theorem StrsAt.get {w : World} {B : Nat} {A : Option Addr} {n : Nat} {l : List ByteArray} (h : StrsAt w B A n l) {i : Nat} (hi : i < n) :
 ∃ b o s, A = some ⟨b, o, none⟩ ∧ b < B ∧ l[i]? = some s ∧ ∀ W, Below B w W → W.cell? ⟨b, o + i, none⟩ = some (.string s) := by
 obtain ⟨b, o, hA, hbB, hc⟩ := h.2.2 (by omega)
 have hl : i < l.length := by rw [h.1]; exact hi
 exact ⟨b, o, l[i], hA, hbB, List.getElem?_eq_getElem hl, fun W hW => (hW.cell hbB).trans (hc i _ (List.getElem?_eq_getElem hl))⟩
set_option maxRecDepth 100000 in
set_option maxHeartbeats 4000000 in
theorem indexStr_any (A : Option Addr) (n cap : Nat) (l : List ByteArray) (s : ByteArray) (w : World) (hR : StrsAt w w.heap.size A n l) :
 Calls Tryz.prog 179 #[.slice A n cap, .string s] w fun e w' => e = .returned (.int .i64 (fst (same s) l 0)) ∧ Below w.heap.size w w' := by
 have hn : n ≤ 9223372036854775807 := hR.2.1
 have HR := Lib.hid hR
 clear hR
 go_enter Tryz.func179, Tryz.ntmps179
 go_wp2
 go_loopw [8] (fun b0 wr => ∃ i : Nat, i ≤ n ∧ b0 = .int .i64 i ∧ Hid (fst (same s) (l.drop i) i = fst (same s) l 0) ∧ Below w.heap.size w wr) (fun b0 _ => n - (intOf b0).toNat)
 case atStart => exact ⟨0, Nat.zero_le _, rfl, Lib.hid (by simp), Below.refl _ _⟩
 case round =>
  obtain ⟨i, hi, rfl, hfd, hb⟩ := hrel
  by_cases hlt : i < n
  ·obtain ⟨b, o, v, hA, hbB, hv, hvv⟩ := StrsAt.get HR.out hlt
   subst hA
   have e0 := hvv _ hb
   have FD := Lib.hid (fst_drop (p := same s) hv)
   clear hv hvv
   cases hpk : same s v
   ·have HX := Lib.hid ((FD.out.2 hpk).symm.trans hfd.out)
    have hq : (s.toList == v.toList) = false := hpk
    clear hfd hpk
    go_wp2
    go_roundw
    case rel => exact ⟨i + 1, by omega, by go_num, HX, hb⟩
    case measure => simp [intOf]; omega
   ·have HX := Lib.hid ((FD.out.1 hpk).symm.trans hfd.out)
    have hq : (s.toList == v.toList) = true := hpk
    clear hfd hpk
    go_wp2
    go_ret
    exact ⟨ret_int HX.out, hb⟩
  ·have HX := Lib.hid ((fst_end (p := same s) (by have := HR.out.1; omega)).symm.trans hfd.out)
   go_wp2
   go_ret
   exact ⟨ret_int HX.out, hb⟩
theorem containsStr_any (A : Option Addr) (n cap : Nat) (l : List ByteArray) (s : ByteArray) (w : World) (hR : StrsAt w w.heap.size A n l) :
 Calls Tryz.prog 127 #[.slice A n cap, .string s] w fun e w' => e = .returned (.bool (hasS l s)) ∧ Below w.heap.size w w' := by
 have C := Lib.hid (indexStr_any A n cap l s w hR)
 clear hR
 go_enter Tryz.func127, Tryz.ntmps127
 go_wp2_with (go_at_call 179; (with_reducible refine C.out.mono ?_); rintro e w4 ⟨rfl, hb4⟩)
 go_ret
 exact ⟨ret_bool rfl, hb4⟩
set_option maxRecDepth 100000 in
set_option maxHeartbeats 4000000 in
theorem grow_any (n : Nat) (w : World) (hn : n ≤ 1000000) :
 Calls Tryz.prog 175 #[.slice none 0 0, .int .i64 n] w fun e w' => ∃ v, e = .returned v ∧ w'.ownsRow w.heap.size 9 1 v 0 [] ∧ Below w.heap.size w w' := by
 obtain ⟨i0, hi, hz0, hz1, hz2⟩ := info_parts infoStr
 by_cases h0 : n = 0
 ·subst h0
  go_enter Tryz.func175, Tryz.ntmps175
  go_wp2
  go_ret
  exact ⟨_, rfl, World.ownsRow_nil _ _ _ _, Below.refl _ _⟩
 ·have hr := fun (W : World) => Lib.run_append_nil_zeros (P := Tryz.prog) W 56 3 56 9 i0 (.string ⟨#[]⟩) .i64 .i64 Tryz.underlying56 Tryz.underlying3 hi hz0 n (by omega) (by rw [hz1]; decide) (by omega) (by rw [hz2]; omega)
  have HR := Lib.hid hr
  have hn1 : 1 ≤ n := by omega
  clear hr hi hz0 hz1 hz2 h0
  go_enter Tryz.func175, Tryz.ntmps175
  go_wp2_with (at_builtin; go_must (refine Lib.wpList_append_run _ rfl _ _ _ _ rfl _ _ rfl rfl _ _ (HR.out _) ?_))
  go_ret
  refine ⟨_, rfl, ?_, ((Below.refl _ _).alloc (Nat.le_refl _) _).drew⟩
  have hg := grownCap_ge w n 0 9
  have hg2 := grownCap_le_maxLen w n 0 9 (by unfold maxLen; omega)
  exact World.ownsRow_made w _ _ (Nat.le_refl _) hg2 (by simp [size_zeroCells]; omega)
structure _root_.Gno.Pt where
 A : Option Addr
 n : Nat
 cap : Nat
 l : List ByteArray
def flat (ps : List Pt) : List ByteArray := ps.flatMap fun p => p.l
def total (ps : List Pt) : Nat := (ps.map fun p => p.n).sum
def PtsAt (w : World) (B b : Nat) (ps : List Pt) : Prop := b < B ∧ ∀ j p, ps[j]? = some p → w.cell? ⟨b, j, none⟩ = some (.slice p.A p.n p.cap) ∧ StrsAt w B p.A p.n p.l ∧ (p.A = none → p.n = 0 ∧ p.cap = 0)
theorem PtsAt.below {w w' : World} {B b : Nat} {ps : List Pt} (h : PtsAt w B b ps) (hb : Below B w w') : PtsAt w' B b ps :=
 ⟨h.1, fun j p hp => ⟨(hb.cell h.1).trans (h.2 j p hp).1, (h.2 j p hp).2.1.below hb (Nat.le_refl _), (h.2 j p hp).2.2⟩⟩
theorem strs_cells {w : World} {B : Nat} {ad : Addr} {n : Nat} {l : List ByteArray} (h : StrsAt w B (some ad) n l) : ∀ j u, (strs l)[j]? = some u → w.cell? (ad.add j) = some u := by
 intro j u hj
 have hjl : j < l.length := by have := (List.getElem?_eq_some_iff.1 hj).1; simpa [strs] using this
 obtain ⟨b, o, hA, hbB, hc⟩ := h.2.2 (by rw [← h.1]; omega)
 injection hA with hA
 subst hA
 rw [Go.WideShapes.add_plain]
 obtain ⟨s, hs⟩ : ∃ s, l[j]? = some s := ⟨_, List.getElem?_eq_getElem hjl⟩
 simp [strs, hs] at hj
 rw [← hj]; exact hc j s hs
theorem total_take {ps : List Pt} {k : Nat} {p : Pt} (h : ps[k]? = some p) : total (ps.take (k + 1)) = total (ps.take k) + p.n := by
 rw [take_snoc' h]; simp [total]
theorem total_le (ps : List Pt) : ∀ k, total (ps.take k) ≤ total ps := by
 intro k
 have h : total ps = total (ps.take k) + total (ps.drop k) := by
  have : total (ps.take k ++ ps.drop k) = total (ps.take k) + total (ps.drop k) := by simp only [total, List.map_append, List.sum_append]
  rwa [List.take_append_drop] at this
 omega
theorem flat_take {ps : List Pt} {k : Nat} {p : Pt} (h : ps[k]? = some p) : flat (ps.take (k + 1)) = flat (ps.take k) ++ p.l := by
 rw [take_snoc' h]; simp [flat]
set_option maxRecDepth 100000 in
set_option maxHeartbeats 4000000 in
theorem concat_any (b m : Nat) (ps : List Pt) (w : World) (hP : PtsAt w w.heap.size b ps) (hm : ps.length = m) (ht : total ps ≤ 1000000) (hm2 : m ≤ 1000000) :
 Calls Tryz.prog 121 #[.slice (some ⟨b, 0, none⟩) m m] w fun e w' => ∃ v, e = .returned v ∧ w'.ownsRow w.heap.size 9 1 v (total ps) (strs (flat ps)) ∧ Below w.heap.size w w' := by
 obtain ⟨i0, hi, hz0, hz1, hz2⟩ := info_parts infoStr
 have hI := Lib.hid hi
 have hZ0 := Lib.hid hz0
 have hZ1 := Lib.hid hz1
 have hZ2 := Lib.hid hz2
 clear hi hz0 hz1 hz2
 have HP := Lib.hid hP
 have HM := Lib.hid hm
 have TL := Lib.hid (total_le ps)
 clear hP hm
 obtain ⟨T, hT⟩ : ∃ T, T = total ps := ⟨_, rfl⟩
 rw [← hT] at ht ⊢
 have HT := Lib.hid hT
 clear hT
 go_enter Tryz.func121, Tryz.ntmps121
 go_wp2
 go_loopw [3, 5, 11] (fun b3 _ b11 wr => ∃ (k s : Nat), k ≤ m ∧ s ≤ T ∧ b11 = .int .i64 k ∧ b3 = .int .i64 s ∧ Hid (s = total (ps.take k)) ∧ w = wr) (fun _ _ b11 _ => m - (intOf b11).toNat)
 case atStart => exact ⟨0, 0, Nat.zero_le _, Nat.zero_le _, rfl, rfl, Lib.hid rfl, rfl⟩
 case round =>
  obtain ⟨k, s, hk, hs, rfl, rfl, hst, rfl⟩ := hrel
  by_cases hlt : k < m
  ·obtain ⟨p, hp⟩ : ∃ p, ps[k]? = some p := ⟨_, List.getElem?_eq_getElem (by rw [HM.out]; exact hlt)⟩
   obtain ⟨e0, hsp, _⟩ := HP.out.2 k p hp
   have HX := Lib.hid (show s + p.n = total (ps.take (k + 1)) by rw [total_take hp, hst.out])
   have hs2 : s + p.n ≤ T := by have h1 := TL.out (k + 1); have h2 := HX.out; have h3 := HT.out; omega
   clear hst hsp hp
   go_wp2
   go_roundw
   case rel => exact ⟨k + 1, s + p.n, by omega, hs2, by go_num, by go_num, HX, trivial⟩
   case measure => simp [intOf]; omega
  ·have hsT : s = T := by rw [hst.out, HT.out, List.take_of_length_le (by rw [HM.out]; omega)]
   subst hsT
   have G := Lib.hid (grow_any s w (by omega))
   clear hst
   go_wp2_with (go_at_call 175; (with_reducible refine G.out.mono ?_); rintro e w1 ⟨v1, rfl, hown1, hb1⟩)
   go_loopw [6, 8, 27] (fun b6 _ b27 wr => ∃ (k t : Nat), k ≤ m ∧ t ≤ s ∧ b27 = .int .i64 k ∧ Hid (t = total (ps.take k)) ∧ wr.ownsRow w.heap.size 9 1 b6 t (strs (flat (ps.take k))) ∧ Below w.heap.size w wr) (fun _ _ b27 _ => m - (intOf b27).toNat)
   case atStart => exact ⟨0, 0, Nat.zero_le _, Nat.zero_le _, rfl, Lib.hid rfl, hown1, hb1⟩
   case round =>
    clear hown1 hb1
    obtain ⟨k, t, hk, hts, rfl, htt, hown, hb⟩ := hrel
    by_cases hlt : k < m
    ·obtain ⟨p, hp⟩ : ∃ p, ps[k]? = some p := ⟨_, List.getElem?_eq_getElem (by rw [HM.out]; exact hlt)⟩
     obtain ⟨e0, hsp, hnil⟩ := (HP.out.below hb).2 k p hp
     have HX := Lib.hid (show t + p.n = total (ps.take (k + 1)) by rw [total_take hp, htt.out])
     have hs2 : t + p.n ≤ s := by have h1 := TL.out (k + 1); have h2 := HX.out; have h3 := HT.out; omega
     have HF := Lib.hid (show strs (flat (ps.take (k + 1))) = strs (flat (ps.take k)) ++ strs p.l by rw [flat_take hp]; simp [strs])
     have HL : Hid ((strs p.l).length = p.n * 1) := Lib.hid (by rw [Nat.mul_one, ← hsp.1]; simp [strs])
     have HOC : Hid (∀ u ∈ strs p.l, u.oneCell' = true) := Lib.hid (fun u hu => by
      simp only [strs, List.mem_map] at hu
      obtain ⟨q, _, rfl⟩ := hu
      rfl)
     clear htt
     cases hA : p.A with
     | none =>
       obtain ⟨hn0, hc0⟩ := hnil hA
       rw [hA, hn0, hc0] at e0
       have HE : Hid (strs p.l = []) := Lib.hid (by
        have := HL.out
        rw [hn0] at this
        exact List.length_eq_zero_iff.1 this)
       rw [hn0, Nat.add_zero] at HX
       rw [HE.out, List.append_nil] at HF
       clear hA hn0 hc0 hnil hsp hp HL HOC HE hs2
       go_wp2_with (at_builtin; go_must (refine wpList_append_own_none rfl _ _ 56 rfl w.heap.size 9 i0 1 Tryz.underlying56 hI.out _ t _ rfl hown rfl ?_))
       go_roundw
       case rel => exact ⟨k + 1, t, by omega, hts, by go_num, HX, by rw [HF.out]; exact hown, hb⟩
       case measure => simp [intOf]; omega
     | some ad =>
       rw [hA] at e0 hsp
       have HC := Lib.hid (strs_cells hsp)
       clear hA hnil hsp hp
       go_wp2_with (at_builtin; go_must (refine wpList_append_own _ rfl _ _ 56 rfl w.heap.size 9 i0 (.string ⟨#[]⟩) 1 16 Tryz.underlying56 hI.out hZ0.out hZ1.out hZ2.out rfl (by decide) _ t _ rfl hown ad p.n p.cap (strs p.l) rfl HL.out HC.out HOC.out (by unfold maxLen; omega) (by omega) hb.size ?_); intro v' w2 hown2 hgrow2 _)
       have hb2 := hb.grown hgrow2 hb.size (fun q hq => (hown.lt q hq).1)
       go_roundw
       case rel => exact ⟨k + 1, t + p.n, by omega, hs2, by go_num, HX, by rw [HF.out]; exact hown2, hb2⟩
       case measure => simp [intOf]; omega
    ·have hown2 : wr.ownsRow w.heap.size 9 1 u6 s (strs (flat ps)) := by
      have h1 := hown
      have h2 : ps.take k = ps := List.take_of_length_le (by rw [HM.out]; omega)
      have h3 := htt.out
      rw [h2] at h1 h3
      rw [HT.out, ← h3]; exact h1
     clear hown htt
     go_wp2
     go_ret
     exact ⟨_, rfl, hown2, hb⟩
end Go.Proofs.YtbbbeldbhlehnaaGreatDoor
end
section
namespace Gno
open Go Go.Maps
def CntH (D : DataW Unit) (l : List ByteArray) : Prop := ∀ s : ByteArray, Maps.has D (.string s.data.toList) = decide (0 < cntN s l)
theorem CntH.start : CntH (.map []) [] := fun s => rfl
theorem CntH.put {D : DataW Unit} {l : List ByteArray} (h : CntH D l) (hm : IsMap D) (v : ByteArray) (x : DataW Unit) : CntH (D.put (.string v.data.toList) x) (l ++ [v]) := by
 intro s
 rw [cntN_snoc]
 by_cases e : same s v = true
 ·rw [if_pos e]
  rw [same_iff] at e
  subst e
  rw [has_put_same hm (show Go.WideAt.IsKeyLit (.string s.data.toList) from trivial)]
  simp
 ·have hne : (Lit.string s.data.toList) ≠ .string v.data.toList := fun h2 => e ((same_iff _ _).2 (ByteArray.ext (Array.toList_inj.1 (by injection h2))))
  rw [if_neg e, has_put_other hne, h s, Nat.add_zero]
end Gno
namespace Go.Proofs.YtbbbeldbhlehnaaGreatDoor
open Go.RowKit Gno Go.Maps Go.WideMaps
theorem size_step {D : DataW Unit} {l : List ByteArray} {i : Nat} {v : ByteArray} (hv : l[i]? = some v) (h : CntH D (l.take i)) (ht : Tidy D) (hs : Maps.size D = dist l i) (x : DataW Unit) : Maps.size (D.put (.string v.data.toList) x) = dist l (i + 1) := by
 rw [size_put ht x, h v, dist_step hv, hs, ← among_cnt]
 split <;> simp_all
set_option maxRecDepth 100000 in
set_option maxHeartbeats 8000000 in
theorem alike_any (A : Option Addr) (n cap : Nat) (l : List ByteArray) (w : World) (hR : StrsAt w w.heap.size A n l) (hn : n ≤ 1000000) (hs : ∀ s ∈ l, s.size ≤ maxLen) :
 Calls Tryz.prog 122 #[.slice A n cap] w fun e w' => e = .returned (.bool (dup l)) ∧ Below w.heap.size w w' := by
 have hmm := @run_makeMap Tryz.prog
 have HR := Lib.hid hR
 have HS := Lib.hid hs
 clear hR hs
 go_enter Tryz.func122, Tryz.ntmps122
 go_wp2
 go_loopw [9] (fun b9 wr => ∃ (i : Nat) (D : DataW Unit), i ≤ n ∧ b9 = .int .i64 i ∧ Hid (Cnt D (l.take i)) ∧ Hid (CntH D (l.take i)) ∧ Hid (Maps.size D = dist l i) ∧
  wr.ownsMap Tryz.prog 9 (plainElem Tryz.prog 3) w.heap.size i D ∧ Below w.heap.size w wr) (fun b9 _ => n - (intOf b9).toNat)
 case atStart => exact ⟨0, .map [], Nat.zero_le _, rfl, Lib.hid Cnt.start, Lib.hid CntH.start, Lib.hid rfl, World.ownsMap_made _ _ _ _, (Below.refl _ _).alloc (Nat.le_refl _) _⟩
 case round =>
  obtain ⟨i, D, hi, rfl, HC, HH, HZ, hown, hb⟩ := hrel
  by_cases hlt : i < n
  ·obtain ⟨b, o, v, hA, hbB, hv, hvv⟩ := StrsAt.get HR.out hlt
   subst hA
   have e0 := hvv _ hb
   have hvs := HS.out v (List.mem_of_getElem? hv)
   have HKEY := Lib.hid (keyOf_string_mk (P := Tryz.prog) Tryz.underlying9 hvs)
   obtain ⟨m, hm⟩ : ∃ m, m = cntN v (l.take i) := ⟨_, rfl⟩
   have hm4 : m ≤ n := by
    have := cntN_le v (l.take i)
    have h2 : (l.take i).length ≤ i := List.length_take_le _ _
    omega
   have HMM := Lib.hid hm.symm
   have HC1 : Hid (Cnt (D.put (.string v.data.toList) (.lit (.int .i64 ((m : Int) + 1)))) (l.take (i + 1))) := Lib.hid (by
    have := HC.out.put hown.isMap v
    rw [HMM.out] at this
    rw [take_snoc' hv]; exact this)
   have HH1 : Hid (CntH (D.put (.string v.data.toList) (.lit (.int .i64 ((m : Int) + 1)))) (l.take (i + 1))) := Lib.hid (by
    rw [take_snoc' hv]; exact HH.out.put hown.isMap v _)
   have HZ1 := Lib.hid (size_step hv HH.out (hown.tidy lawStr) HZ.out (.lit (.int .i64 ((m : Int) + 1))))
   clear hm hvs hv hvv
   go_wp2_with (first
    | (at_lookup; go_must (refine wpList_lookup_own_int _ rfl _ _ 165 rfl 9 3 .i64 lawStr Tryz.underlying165 Tryz.underlying3 (zeroInt _) w.heap.size i _ rfl hown _ _ rfl HKEY.out ?_); intro c hat hwc; obtain rfl := cnt_at HC.out HMM.out hat; clear hat hwc)
    | (at_mapUpdate; go_must (refine wpList_mapUpdate_own _ rfl _ _ _ 165 rfl 9 3 lawStr Tryz.underlying165 _ w.heap.size i _ rfl hown (by unfold maxLen; omega) _ _ _ rfl rfl HKEY.out _ [] (plainElem_int Tryz.underlying3 (WalkArith.wf_i64 (by omega))) ?_); intro w1 hown1 hgrow1)
    | go_in)
   have hb1 := hb.grown hgrow1 hb.size (fun j hj => by cases hj; exact Nat.le_refl _)
   go_roundw
   case rel => exact ⟨i + 1, _, by omega, by go_num, HC1, HH1, HZ1, hown1, hb1⟩
   case measure => simp [intOf]; omega
  ·have hin : i = n := by omega
   have HX : Hid (dup l = decide (Maps.size D < n)) := Lib.hid (by
    have hl := HR.out.1
    unfold dup
    rw [dist_dup l.length (Nat.le_refl _), HZ.out, hl, hin])
   clear hin
   go_wp2_with (first
    | (at_len; refine wpList_len_own _ rfl _ _ rfl 9 3 Tryz.underlying165 _ w.heap.size i _ rfl hown ?_)
    | go_in)
   go_ret
   exact ⟨ret_bool HX.out.symm, hb⟩
end Go.Proofs.YtbbbeldbhlehnaaGreatDoor
end
section
namespace Go.Proofs.YtbbbeldbhlehnaaGreatDoor
open Go.RowKit Gno Go.Maps Go.WideMaps
theorem locs_take {bs : List Bk} {i : Nat} {q : Bk} (h : bs[i]? = some q) : (locs bs)[i]? = some q.loc ∧ (locs bs).take (i + 1) = (locs bs).take i ++ [q.loc] := by
 have h1 : (locs bs)[i]? = some q.loc := by simp [locs, h]
 exact ⟨h1, take_snoc' h1⟩
theorem manyB {bs : List Bk} {b : Bool} (h : hasP manyPairs bs = b) : anyI (fun _ => manyPairs) bs = b := by rw [anyI_any, ← hasP_any]; exact h
def LastIs (ps : List Pr) (i : Nat) (last : ByteArray) : Prop := (i = 0 ∧ last = ⟨#[]⟩) ∨ ∃ j a, i = j + 1 ∧ ps[j]? = some a ∧ last = a.key
theorem less_none {a : ByteArray} (h : 1 ≤ a.size) : lessB ⟨#[]⟩ a = true := by
 unfold lessB
 rw [ByteArray.toList_eq, ByteArray.toList_eq]
 show Op.bytesLess [] a.data.toList = true
 have hl : a.data.toList.length = a.size := by simp
 cases hd : a.data.toList
 ·rw [hd] at hl; simp at hl; omega
 ·rfl
theorem fall_last {ps : List Pr} {i : Nat} {last : ByteArray} {r : Pr} (h : LastIs ps i last) (hr : ps[i]? = some r) (hs : 1 ≤ r.key.size) : fallAt ps i = !lessB last r.key := by
 rcases h with ⟨rfl, rfl⟩ | ⟨j, a, rfl, ha, rfl⟩
 ·rw [less_none hs]; rfl
 ·exact fallAt_succ ha hr
theorem le_cases {a b : ByteArray} (h : lessB b a = false) : (Op.bytesLess a.toList b.toList = true) ∨ (Op.bytesLess a.toList b.toList = false ∧ (a.toList == b.toList) = true) := by
 have := less_or a b
 rw [h] at this
 cases h1 : Op.bytesLess a.toList b.toList
 ·rw [h1] at this; exact .inr ⟨rfl, by simpa using this⟩
 ·exact .inl rfl
theorem gt_both {a b : ByteArray} (h : lessB b a = true) : Op.bytesLess a.toList b.toList = false ∧ (a.toList == b.toList) = false := by
 have := less_or a b
 rw [h] at this
 simpa using this
theorem box3 {w w1 : World} {a b c : Value} {T : TypeId} (hb : Below (w.heap.size + 1) (w.alloc (.cells #[a, b, c] T)) w1) :
 w1.cell? ⟨w.heap.size, 0, none⟩ = some a ∧ w1.cell? ⟨w.heap.size, 1, none⟩ = some b ∧ w1.cell? ⟨w.heap.size, 2, none⟩ = some c := by
 refine ⟨(hb.cell (p := ⟨w.heap.size, 0, none⟩) (by simp)).trans (by simp), (hb.cell (p := ⟨w.heap.size, 1, none⟩) (by simp)).trans (by simp), (hb.cell (p := ⟨w.heap.size, 2, none⟩) (by simp)).trans (by simp)⟩
theorem cnt_put {D : DataW Unit} {l : List ByteArray} {v : ByteArray} {m : Nat} {c : Int} (h : Cnt D l) (hi : IsMap D) (hm : cntN v l = m) (hat : (D.put (.string v.data.toList) (.lit (.int .i64 ((m : Int) + 1)))).atKey (.string v.data.toList) (.lit (.int .i64 0)) = .lit (.int .i64 c)) : c = (m : Int) + 1 := by
 rw [atKey_put_same hi (show Go.WideAt.IsKeyLit (.string v.data.toList) from trivial)] at hat
 injection hat with h1
 injection h1 with _ h2
 exact h2.symm
theorem anyI_false {α : Type} {p : α → Bool} {l : List α} {i : Nat} {x : α} (h : anyI (fun _ => p) l = false) (hx : l[i]? = some x) : p x = false := by
 cases hp : p x
 ·rfl
 ·rw [anyI_yes (p := fun _ => p) hx hp] at h; cases h
theorem badBook_key {q : Bk} {i : Nat} {r : Pr} (h : badBook q = false) (hr : q.ps[i]? = some r) : 1 ≤ r.key.size := by
 unfold badBook at h
 rw [Bool.or_eq_false_iff, hasP_any, List.any_eq_false] at h
 have := h.2 r (List.mem_of_getElem? hr)
 unfold badPair at this
 false_or_by_contra
 rename_i hn
 rw [nameOk_size r.key (by omega)] at this
 simp at this
set_option maxRecDepth 100000 in
set_option maxHeartbeats 8000000 in
theorem checkB_any (A : Option Addr) (n cap : Nat) (bs : List Bk) (w : World) (hR : BooksAt w w.heap.size A n bs) :
 Calls Tryz.prog 49 #[.slice A n cap] w fun e w' => e = .returned (.int .i64 (booksE bs)) ∧ Below w.heap.size w w' := by
 have hmm := @run_makeMap Tryz.prog
 have hmf : ∀ (fn : Fn) (first cap : Array Value) (w : World), (Instr.makeFunc fn first cap).run Tryz.prog w = .ok (.func fn first cap) w := fun _ _ _ _ => rfl
 have hn : n ≤ 9223372036854775807 := hR.2.1
 have hlen := hR.1
 have HLE := Lib.hid hlen
 clear hlen
 have HR := Lib.hid hR
 clear hR
 by_cases h4 : 4 < n
 ·have HX := Lib.hid (booksE_long (bs := bs) (by rw [HLE.out]; exact h4))
  have h4b : decide ((4 : Int) < (n : Int)) = true := by simp; omega
  go_enter Tryz.func49, Tryz.ntmps49
  go_wp2
  go_ret
  exact ⟨ret_int HX.out.symm, Below.refl _ _⟩
 have h4b : decide ((4 : Int) < (n : Int)) = false := by simp; omega
 have HL4 := Lib.hid (show ¬ 4 < bs.length by rw [HLE.out]; exact h4)
 have C1 := containsB_any 104 #[] (enters_of Tryz.func104 (by kernel_rfl) rfl) manyPairs A n cap bs w HR.out (fun W k hk hb => many_any k W)
 cases hmp : hasP manyPairs bs
 ·rw [hmp] at C1
  have C := Lib.hid C1
  have HM := Lib.hid (manyB hmp)
  clear C1 hmp
  go_enter Tryz.func49, Tryz.ntmps49
  go_wp2_with (go_at_call 103; (with_reducible refine C.out.mono ?_); rintro e w4 ⟨rfl, hb4⟩)
  go_loopw [22] (fun b22 wr => ∃ i : Nat, i ≤ n ∧ b22 = .int .i64 i ∧ Hid (anyTo (atI (fun _ => badBook) bs) i = false) ∧ Below w.heap.size w wr) (fun b22 _ => n - (intOf b22).toNat)
  case atStart => exact ⟨0, Nat.zero_le _, rfl, Lib.hid rfl, hb4⟩
  case round =>
   obtain ⟨k, hk, rfl, hfk, hb⟩ := hrel
   by_cases hkt : k < n
   ·obtain ⟨b, o, q, rfl, hbB, hq, hq1, hq2⟩ := HR.out.get hkt
    have HB := Lib.hid hq2
    have HQ := Lib.hid hq
    obtain ⟨e0, e1, e2⟩ := (hq2 _ hb).1
    clear hq hq2
    have hb1 : Below w.heap.size w (wr.alloc (.cells #[.string q.loc, .int .i64 q.par, .slice q.A q.n q.cap] 43)) := hb.alloc hb.size _
    have NA1 := name_any q.loc (wr.alloc (.cells #[.string q.loc, .int .i64 q.par, .slice q.A q.n q.cap] 43)) hq1
    have HBX := Lib.hid hb1
    cases hnm : nameOk q.loc
    ·rw [hnm] at NA1
     have NA := Lib.hid NA1
     have HX := Lib.hid (booksE_name HL4.out HM.out (anyI_yes (p := fun _ => badBook) HQ.out (by unfold badBook; rw [hnm]; rfl)))
     clear hnm hq1 hfk NA1 hb1
     go_wp2_with (go_at_call 43; (with_reducible refine NA.out.mono ?_); rintro e w5 ⟨rfl, hb5⟩)
     go_ret
     exact ⟨ret_int HX.out.symm, HBX.out.trans (hb5.mono HBX.out.size)⟩
    ·rw [hnm] at NA1
     have NA := Lib.hid NA1
     have HN := Lib.hid hnm
     have HPB : Hid (∀ W, Below w.heap.size w W → Calls Tryz.prog 105 #[.slice q.A q.n q.cap, .func (.func 106) #[] #[]] W fun e w' => e = .returned (.bool (hasP badPair q.ps)) ∧ Below W.heap.size W w') := Lib.hid (fun W hW =>
      containsP_any 106 #[] (enters_of Tryz.func106 (by kernel_rfl) rfl) badPair q.A q.n q.cap q.ps W (((HB.out W hW).2).more hW.size) (fun W2 k hk hb => badPair_any k W2 (by
       obtain ⟨j, hj⟩ := List.getElem?_of_mem hk
       have hps := (HB.out W hW).2
       have hjl : j < q.n := by have := (List.getElem?_eq_some_iff.1 hj).1; rw [hps.1] at this; exact this
       obtain ⟨_, _, r, _, _, hr, hr1, _⟩ := hps.get hjl
       rw [hj] at hr
       injection hr with hr
       rw [hr]; exact hr1)))
     clear hnm hq1 NA1 hb1
     cases hbp : hasP badPair q.ps
     ·rw [hbp] at HPB
      have HX := Lib.hid (anyI_no (p := fun _ => badBook) HQ.out hfk.out (by unfold badBook; rw [HN.out, hbp]; rfl))
      clear hbp hfk
      go_wp2_with (first
       | (go_at_call 43; (with_reducible refine NA.out.mono ?_); rintro e w5 ⟨rfl, hb5⟩; simp only [World.size_alloc] at hb5; obtain ⟨g0, g1, g2⟩ := box3 hb5; have hb6 := HBX.out.trans (hb5.mono (by have := HBX.out.size; simp at this; exact this)); clear hb5)
       | (go_at_call 105; (with_reducible refine (HPB.out _ hb6).mono ?_); rintro e w7 ⟨rfl, hb7⟩; have hb8 := hb6.trans (hb7.mono hb6.size); clear hb7))
      go_roundw
      case rel => exact ⟨k + 1, by omega, by go_num, HX, hb8⟩
      case measure => simp [intOf]; omega
     ·rw [hbp] at HPB
      have HX := Lib.hid (booksE_name HL4.out HM.out (anyI_yes (p := fun _ => badBook) HQ.out (by unfold badBook; rw [hbp]; simp)))
      clear hbp hfk
      go_wp2_with (first
       | (go_at_call 43; (with_reducible refine NA.out.mono ?_); rintro e w5 ⟨rfl, hb5⟩; simp only [World.size_alloc] at hb5; obtain ⟨g0, g1, g2⟩ := box3 hb5; have hb6 := HBX.out.trans (hb5.mono (by have := HBX.out.size; simp at this; exact this)); clear hb5)
       | (go_at_call 105; (with_reducible refine (HPB.out _ hb6).mono ?_); rintro e w7 ⟨rfl, hb7⟩; have hb8 := hb6.trans (hb7.mono hb6.size); clear hb7))
      go_ret
      exact ⟨ret_int HX.out.symm, hb8⟩
   ·have HN := Lib.hid (anyI_end (by rw [HLE.out]; omega) (by rw [HLE.out]; exact hk) hfk.out)
    clear hb4 hfk
    obtain ⟨wa, hwa⟩ : ∃ wa : World, wa = wr := ⟨_, rfl⟩
    rw [← hwa] at hb
    rw [← hwa]
    clear hwa
    have hb0 : Below w.heap.size w (wa.alloc (.map #[] 0)) := hb.alloc hb.size _
    have hza := hb.size
    clear hb
    go_wp2
    go_loopw [39] (fun b39 wr => ∃ (i : Nat) (D : DataW Unit), i ≤ n ∧ b39 = .int .i64 i ∧ Hid (dupTo (locs bs) i = false) ∧ Hid (anyTo (atI (fun _ => fallsB) bs) i = false) ∧ Hid (Cnt D ((locs bs).take i)) ∧
     wr.ownsMap Tryz.prog 9 (plainElem Tryz.prog 3) wa.heap.size i D ∧ Below w.heap.size w wr) (fun b39 _ => n - (intOf b39).toNat)
    case atStart => exact ⟨0, .map [], Nat.zero_le _, rfl, Lib.hid rfl, Lib.hid rfl, Lib.hid Cnt.start, World.ownsMap_made _ _ _ _, hb0⟩
    case round =>
     clear hb0
     obtain ⟨k, D, hk, rfl, hdu, hfk, HC, hown, hb⟩ := hrel
     by_cases hkt : k < n
     ·obtain ⟨b, o, q, rfl, hbB, hq, hq1, hq2⟩ := HR.out.get hkt
      have HB := Lib.hid hq2
      have HQ := Lib.hid hq
      obtain ⟨e0, e1, e2⟩ := (hq2 _ hb).1
      have HLT := Lib.hid (locs_take hq)
      clear hq hq2
      obtain ⟨m, hm⟩ : ∃ m, m = cntN q.loc ((locs bs).take k) := ⟨_, rfl⟩
      have hm4 : m ≤ 4 := by
       have := cntN_le q.loc ((locs bs).take k)
       have h2 : ((locs bs).take k).length ≤ k := List.length_take_le _ _
       omega
      have HMM := Lib.hid hm.symm
      have HAM := Lib.hid (among_cnt (l := locs bs) (v := q.loc) (i := k))
      have hlt := hown.lt
      have HKEY := Lib.hid (keyOf_string_mk (P := Tryz.prog) Tryz.underlying9 hq1)
      have HG : Hid (∀ w1, (wr.alloc (.cells #[.string q.loc, .int .i64 q.par, .slice q.A q.n q.cap] 43)).grownBy w1 (some wa.heap.size) → Below w.heap.size w w1 ∧ wr.heap.size + 1 ≤ w1.heap.size ∧
       w1.cell? ⟨wr.heap.size, 0, none⟩ = some (.string q.loc) ∧ w1.cell? ⟨wr.heap.size, 2, none⟩ = some (.slice q.A q.n q.cap)) := Lib.hid (fun w1 hg => by
       have hz := hb.size
       refine ⟨(hb.alloc hz _).grown hg (by simp; omega) (fun j hj => by cases hj; omega), by have := hg.size; simp at this; omega, hg.cell (by simp) (by simp; omega), hg.cell (by simp) (by simp; omega)⟩)
      clear hm hq1
      by_cases hm1 : 1 ≤ m
      ·have HX := Lib.hid (booksE_dup HL4.out HM.out HN.out (dup_yes (i := k) (m := k) HLT.out.1 (Nat.le_refl _) (by rw [HAM.out, HMM.out]; simp; omega)))
       have tok1 : True := trivial
       go_wp2_with (first
        | (at_lookup; have _t := tok1; go_must (refine wpList_lookup_own_int _ rfl _ _ 165 rfl 9 3 .i64 lawStr Tryz.underlying165 Tryz.underlying3 (zeroInt _) wa.heap.size k _ rfl (hown.alloc _) _ _ rfl HKEY.out ?_); intro c hat hwc; obtain rfl := cnt_at HC.out HMM.out hat; clear tok1 hat hwc _t)
        | (at_mapUpdate; go_must (refine wpList_mapUpdate_own _ rfl _ _ _ 165 rfl 9 3 lawStr Tryz.underlying165 _ wa.heap.size k _ rfl (hown.alloc _) (by unfold maxLen; omega) _ _ _ rfl rfl HKEY.out _ [] (plainElem_int Tryz.underlying3 (WalkArith.wf_i64 (by omega))) ?_); intro w1 hown1 hgrow1; obtain ⟨hb1, hz1, g0, g2⟩ := HG.out _ hgrow1; clear hgrow1)
        | (at_lookup; go_must (refine wpList_lookup_own_int _ rfl _ _ 165 rfl 9 3 .i64 lawStr Tryz.underlying165 Tryz.underlying3 (zeroInt _) wa.heap.size (k + 1) _ rfl hown1 _ _ rfl HKEY.out ?_); intro c hat hwc; obtain rfl := cnt_put HC.out hown.isMap HMM.out hat; clear hat hwc)
        | go_in)
       go_ret
       exact ⟨ret_int HX.out.symm, hb1⟩
      ·obtain rfl : m = 0 := by omega
       have HDU := Lib.hid (dupTo_no HLT.out.1 hdu.out (by rw [HAM.out, HMM.out]; rfl))
       have HP := Lib.hid ((HB.out _ (Below.refl _ _)).2)
       have hqn : q.n ≤ 9223372036854775807 := HP.out.2.1
       have HBB : Hid (badBook q = false) := Lib.hid (anyI_false HN.out HQ.out)
       have tok1 : True := trivial
       go_wp2_with (first
        | (at_lookup; have _t := tok1; go_must (refine wpList_lookup_own_int _ rfl _ _ 165 rfl 9 3 .i64 lawStr Tryz.underlying165 Tryz.underlying3 (zeroInt _) wa.heap.size k _ rfl (hown.alloc _) _ _ rfl HKEY.out ?_); intro c hat hwc; obtain rfl := cnt_at HC.out HMM.out hat; clear tok1 hat hwc _t)
        | (at_mapUpdate; go_must (refine wpList_mapUpdate_own _ rfl _ _ _ 165 rfl 9 3 lawStr Tryz.underlying165 _ wa.heap.size k _ rfl (hown.alloc _) (by unfold maxLen; omega) _ _ _ rfl rfl HKEY.out _ [] (plainElem_int Tryz.underlying3 (WalkArith.wf_i64 (by omega))) ?_); intro w1 hown1 hgrow1; obtain ⟨hb1, hz1, g0, g2⟩ := HG.out _ hgrow1; clear hgrow1)
        | (at_lookup; go_must (refine wpList_lookup_own_int _ rfl _ _ 165 rfl 9 3 .i64 lawStr Tryz.underlying165 Tryz.underlying3 (zeroInt _) wa.heap.size (k + 1) _ rfl hown1 _ _ rfl HKEY.out ?_); intro c hat hwc; obtain rfl := cnt_put HC.out hown.isMap HMM.out hat; clear hat hwc)
        | go_in)
       have HC1 : Hid (Cnt (D.put (.string q.loc.data.toList) (.lit (.int .i64 ((0 : Nat) + 1 : Int)))) ((locs bs).take (k + 1))) := Lib.hid (by
        have := HC.out.put hown.isMap q.loc
        rw [HMM.out] at this
        rw [HLT.out.2]; exact this)
       obtain ⟨wo, hwo⟩ : ∃ wo : World, wo = wr := ⟨_, rfl⟩
       rw [← hwo] at g0 g2 hz1
       rw [← hwo]
       clear hb hown HG hlt e0 e1 e2 hwo
       go_loopw [8, 56] (fun b8 b56 wr2 => ∃ (i : Nat) (last : ByteArray), i ≤ q.n ∧ b56 = .int .i64 i ∧ b8 = .string last ∧ Hid (LastIs q.ps i last) ∧ Hid (anyTo (fallAt q.ps) i = false) ∧ Below w1.heap.size w1 wr2) (fun _ b56 _ => q.n - (intOf b56).toNat)
       case atStart => exact ⟨0, ⟨#[]⟩, Nat.zero_le _, rfl, rfl, Lib.hid (.inl ⟨rfl, rfl⟩), Lib.hid rfl, Below.refl _ _⟩
       case round =>
        obtain ⟨i, last, hi, rfl, rfl, hla, hfi, hb2⟩ := hrel
        have hbi : Below w.heap.size w wr := hb1.trans (hb2.mono hb1.size)
        by_cases hit : i < q.n
        ·obtain ⟨c, f, r, hA, hcB, hr, hr1, hr2, hr3⟩ := HP.out.get hit
         obtain ⟨d0, d1⟩ := hr3 _ hbi
         have FA := Lib.hid (fall_last hla.out hr (badBook_key HBB.out hr))
         have HRR := Lib.hid hr
         have hA2 := Lib.hid hA
         clear hr hr3 hA
         cases hls : lessB last r.key
         ·have HX := Lib.hid (booksE_fall HL4.out HM.out HN.out (anyI_yes (p := fun _ => fallsB) HQ.out (anyTo_yes (n := q.ps.length) (by rw [HP.out.1]; exact hit) (by rw [FA.out, hls]; rfl))))
          have hle := le_cases hls
          clear hls FA hfi
          rw [hA2.out]
          rcases hle with hl1 | ⟨hl1, hl2⟩
          all_goals
           go_wp2
           go_ret
           exact ⟨ret_int HX.out.symm, hbi.alloc hbi.size _⟩
         ·have HX := Lib.hid (anyTo_no hfi.out (by rw [FA.out, hls]; rfl))
          obtain ⟨hl1, hl2⟩ := gt_both hls
          clear hls FA hfi
          rw [hA2.out]
          go_wp2
          go_roundw
          case rel => exact ⟨i + 1, r.key, by omega, by go_num, rfl, Lib.hid (.inr ⟨i, r, rfl, HRR.out, rfl⟩), HX, hb2.alloc hb2.size _⟩
          case measure => simp [intOf]; omega
        ·have HX := Lib.hid (anyI_no (p := fun _ => fallsB) HQ.out hfk.out (by
          have hps := HP.out.1
          unfold fallsB
          rw [hps, show q.n = i by omega]; exact hfi.out))
         go_wp2
         go_roundw
         case rel => exact ⟨k + 1, _, by omega, by go_num, HDU, HX, HC1, hown1.below hb2 hown1.lt, hbi⟩
         case measure => simp [intOf]; omega
     ·have hin : k = n := by omega
      have HD : Hid (dup (locs bs) = false) := Lib.hid (by
       have h1 := hdu.out
       have h2 : (locs bs).length = k := by unfold locs; rw [List.length_map, HLE.out, hin]
       unfold dup
       rw [h2]; exact h1)
      have HF := Lib.hid (anyI_end (by rw [HLE.out]; omega) (by rw [HLE.out]; exact hk) hfk.out)
      clear hdu hfk HC hown hin
      go_wp2
      go_loopw [70] (fun b9 wr => ∃ i : Nat, i ≤ n ∧ b9 = .int .i64 i ∧ Hid (anyTo (atI badPar bs) i = false) ∧ Below w.heap.size w wr) (fun b9 _ => n - (intOf b9).toNat)
      case atStart => exact ⟨0, Nat.zero_le _, rfl, Lib.hid rfl, hb⟩
      case round =>
       obtain ⟨i, hi, rfl, hfi, hbi⟩ := hrel
       by_cases hit : i < n
       ·obtain ⟨b, o, q, rfl, hbB, hq, hq1, hq2⟩ := HR.out.get hit
        have HQ := Lib.hid hq
        obtain ⟨e0, e1, e2⟩ := (hq2 _ hbi).1
        clear hq hq2
        by_cases hp1 : q.par < -1
        ·have HX := Lib.hid (booksE_par HL4.out HM.out HN.out HD.out HF.out (anyI_yes HQ.out (by unfold badPar; simp [hp1])))
         have hp1b : decide (q.par < -1) = true := by simpa using hp1
         clear hfi
         go_wp2
         go_ret
         exact ⟨ret_int HX.out.symm, hbi.alloc hbi.size _⟩
        ·have hp1b : decide (q.par < -1) = false := by simpa using hp1
         by_cases hp2 : (i : Int) ≤ q.par
         ·have HX := Lib.hid (booksE_par HL4.out HM.out HN.out HD.out HF.out (anyI_yes HQ.out (by unfold badPar; simp [hp2])))
          have hp2b : decide ((i : Int) ≤ q.par) = true := by simpa using hp2
          clear hfi
          go_wp2
          go_ret
          exact ⟨ret_int HX.out.symm, hbi.alloc hbi.size _⟩
         ·have HX := Lib.hid (anyI_no (p := badPar) HQ.out hfi.out (by unfold badPar; simp; omega))
          have hp2b : decide ((i : Int) ≤ q.par) = false := by simpa using hp2
          clear hfi
          go_wp2
          go_roundw
          case rel => exact ⟨i + 1, by omega, by go_num, HX, hbi.alloc hbi.size _⟩
          case measure => simp [intOf]; omega
       ·have HX := Lib.hid (booksE_ok HL4.out HM.out HN.out HD.out HF.out (anyI_end (by rw [HLE.out]; omega) (by rw [HLE.out]; exact hi) hfi.out))
        go_wp2
        go_ret
        exact ⟨ret_int HX.out.symm, hbi⟩
 ·rw [hmp] at C1
  have C := Lib.hid C1
  have HX := Lib.hid (booksE_many HL4.out (manyB hmp))
  clear C1 hmp
  go_enter Tryz.func49, Tryz.ntmps49
  go_wp2_with (go_at_call 103; (with_reducible refine C.out.mono ?_); rintro e w4 ⟨rfl, hb4⟩)
  go_ret
  exact ⟨ret_int HX.out.symm, hb4⟩
end Go.Proofs.YtbbbeldbhlehnaaGreatDoor
end
section
namespace Gno
open Go
theorem bookN_range (bs : List Bk) (loc : ByteArray) : -1 ≤ bookN bs loc ∧ (bookN bs loc < bs.length) := by
 unfold bookN
 rcases fst_range (isBook loc) bs 0 (by omega) with e | e <;> omega
theorem parOk_of {bs : List Bk} (h : booksE bs = 0) : parOk bs := by
 have h5 := (booksE_zero h).2.2.2.2.2
 intro i b hb
 cases hp : badPar i b
 ·unfold badPar at hp
  rw [Bool.or_eq_false_iff, decide_eq_false_iff_not, decide_eq_false_iff_not] at hp
  omega
 ·rw [anyI_yes hb hp] at h5; cases h5
def textS (bs : List Bk) (loc key : ByteArray) : ByteArray := if booksE bs ≠ 0 then noText else if bookN bs loc < 0 then noText else (lookB bs key (bookN bs loc)).1
def textB (bs : List Bk) (loc key : ByteArray) : Bool := if booksE bs ≠ 0 then false else if bookN bs loc < 0 then false else (lookB bs key (bookN bs loc)).2
def textE (bs : List Bk) (loc key : ByteArray) : Int := if booksE bs ≠ 0 then booksE bs else if bookN bs loc < 0 then 4 else 0
end Gno
namespace Go.Proofs.YtbbbeldbhlehnaaGreatDoor
open Go.RowKit Gno
end Go.Proofs.YtbbbeldbhlehnaaGreatDoor
end
section
namespace Gno
open Go
def noKeyTo (key : ByteArray) (ps : List Pr) (i : Nat) : Prop := ∀ r, inPairs key r (ps.drop i) = inPairs key r ps
end Gno
end
section
namespace Gno
open Go
def sRoot : ByteArray := ⟨#[114, 111, 111, 116]⟩
def sXx : ByteArray := ⟨#[120, 120]⟩
def sYy : ByteArray := ⟨#[121, 121]⟩
def sAWest : ByteArray := ⟨#[65, 47, 87, 101, 115, 116]⟩
def sWest : ByteArray := ⟨#[87, 101, 115, 116]⟩
def sMidD : ByteArray := ⟨#[109, 105, 100, 47, 100]⟩
def sMidS : ByteArray := ⟨#[109, 105, 100, 47, 115]⟩
def sMDT : ByteArray := ⟨#[77, 68, 84]⟩
def sMST : ByteArray := ⟨#[77, 83, 84]⟩
def smst : ByteArray := ⟨#[109, 115, 116]⟩
def shelfP1 : List Pr := [⟨sAWest, sWest⟩, ⟨sMidD, sMDT⟩, ⟨sMidS, sMST⟩]
def shelfP2 : List Pr := [⟨sAWest, ⟨#[]⟩⟩, ⟨sMidS, smst⟩]
def shelfB (k : Nat) (p : Int) : List Bk := [⟨sRoot, p, some ⟨k, 0, none⟩, 3, 3, shelfP1⟩, ⟨sXx, 0, some ⟨k + 1, 0, none⟩, 2, 2, shelfP2⟩]
theorem shelf_ok (k : Nat) : booksE (shelfB k (-1)) = 0 := by kernel_rfl
end Gno
namespace Go.Proofs.YtbbbeldbhlehnaaGreatDoor
open Go.RowKit Gno
def shelfW (w : World) : World := ((w.alloc (.cells #[.string sAWest, .string sWest, .string sMidD, .string sMDT, .string sMidS, .string sMST] 163)).alloc (.cells #[.string sAWest, .string ⟨#[]⟩, .string sMidS, .string smst] 163)).alloc
 (.cells #[.string sRoot, .int .i64 (-1), .slice (some ⟨w.heap.size, 0, none⟩) 3 3, .string sXx, .int .i64 0, .slice (some ⟨w.heap.size + 1, 0, none⟩) 2 2] 43)
theorem shelfW_size (w : World) : (shelfW w).heap.size = w.heap.size + 3 := by simp [shelfW]
theorem shelfW_below (w : World) : Below w.heap.size w (shelfW w) := (((Below.refl _ _).alloc (Nat.le_refl _) _).alloc (by simp) _).alloc (by simp; omega) _
theorem shelf_any (w : World) : Calls Tryz.prog 89 #[] w fun e w' => e = .returned (.slice (some ⟨w.heap.size + 2, 0, none⟩) 2 2) ∧ w' = shelfW w := by
 go_enter Tryz.func89, Tryz.ntmps89
 go_wp2
 go_ret
 exact ⟨rfl, rfl⟩
def CellsAt (W : World) (b : Nat) (cs : List Value) : Prop := ∀ j u, cs[j]? = some u → W.cell? ⟨b, j, none⟩ = some u
theorem CellsAt.below {W W' : World} {B b : Nat} {cs : List Value} (h : CellsAt W b cs) (hb : Below B W W') (hB : b < B) : CellsAt W' b cs := fun j u hj => (hb.cell hB).trans (h j u hj)
def shelfC1 : List Value := [.string sAWest, .string sWest, .string sMidD, .string sMDT, .string sMidS, .string sMST]
def shelfC2 : List Value := [.string sAWest, .string ⟨#[]⟩, .string sMidS, .string smst]
def shelfC3 (k : Nat) (p : Int) : List Value := [.string sRoot, .int .i64 p, .slice (some ⟨k, 0, none⟩) 3 3, .string sXx, .int .i64 0, .slice (some ⟨k + 1, 0, none⟩) 2 2]
def ShelfIn (W : World) (k : Nat) (p : Int) : Prop := CellsAt W k shelfC1 ∧ CellsAt W (k + 1) shelfC2 ∧ CellsAt W (k + 2) (shelfC3 k p)
theorem ShelfIn.below {W W' : World} {B k : Nat} {p : Int} (h : ShelfIn W k p) (hb : Below B W W') (hB : k + 2 < B) : ShelfIn W' k p :=
 ⟨h.1.below hb (by omega), h.2.1.below hb (by omega), h.2.2.below hb hB⟩
theorem shelfW_in (w : World) : ShelfIn (shelfW w) w.heap.size (-1) := by
 have s1 : (w.alloc (.cells #[.string sAWest, .string sWest, .string sMidD, .string sMDT, .string sMidS, .string sMST] 163)).heap.size = w.heap.size + 1 := by simp
 unfold shelfW
 refine ⟨fun j u hj => ?_, fun j u hj => ?_, fun j u hj => ?_⟩
 ·rw [World.cell?_alloc_past _ _ _ (by simp; omega), World.cell?_alloc_past _ _ _ (by simp), World.cell?_alloc_at _ _ _ _ rfl]
  simpa [shelfC1] using hj
 ·rw [World.cell?_alloc_past _ _ _ (by simp), World.cell?_alloc_at _ _ _ _ (by simp)]
  simpa [shelfC2] using hj
 ·rw [World.cell?_alloc_at _ _ _ _ (by simp)]
  simpa [shelfC3] using hj
theorem shelf_at {W : World} {B k : Nat} {p : Int} (h : ShelfIn W k p) (hB : k + 2 < B) : BooksAt W B (some ⟨k + 2, 0, none⟩) 2 (shelfB k p) := by
 obtain ⟨h1, h2, h3⟩ := h
 refine ⟨rfl, by unfold maxLen; omega, fun _ => ⟨k + 2, 0, rfl, hB, fun i q hq => ?_⟩⟩
 match i, hq with
 | 0, hq =>
   obtain rfl : (⟨sRoot, p, some ⟨k, 0, none⟩, 3, 3, shelfP1⟩ : Bk) = q := by simpa [shelfB] using hq
   refine ⟨⟨h3 0 _ rfl, h3 1 _ rfl, h3 2 _ rfl⟩, (show (4 : Nat) ≤ maxLen by unfold maxLen; omega), rfl, (show (3 : Nat) ≤ maxLen by unfold maxLen; omega), fun _ => ⟨k, 0, rfl, by omega, fun j r hr => ?_⟩⟩
   match j, hr with
   | 0, hr =>
     obtain rfl : (⟨sAWest, sWest⟩ : Pr) = r := by simpa [shelfP1] using hr
     exact ⟨⟨h1 0 _ rfl, h1 1 _ rfl⟩, by unfold maxLen; decide, by unfold maxLen; decide⟩
   | 1, hr =>
     obtain rfl : (⟨sMidD, sMDT⟩ : Pr) = r := by simpa [shelfP1] using hr
     exact ⟨⟨h1 2 _ rfl, h1 3 _ rfl⟩, by unfold maxLen; decide, by unfold maxLen; decide⟩
   | 2, hr =>
     obtain rfl : (⟨sMidS, sMST⟩ : Pr) = r := by simpa [shelfP1] using hr
     exact ⟨⟨h1 4 _ rfl, h1 5 _ rfl⟩, by unfold maxLen; decide, by unfold maxLen; decide⟩
   | j + 3, hr => simp [shelfP1] at hr
 | 1, hq =>
   obtain rfl : (⟨sXx, 0, some ⟨k + 1, 0, none⟩, 2, 2, shelfP2⟩ : Bk) = q := by simpa [shelfB] using hq
   refine ⟨⟨h3 3 _ rfl, h3 4 _ rfl, h3 5 _ rfl⟩, (show (2 : Nat) ≤ maxLen by unfold maxLen; omega), rfl, (show (2 : Nat) ≤ maxLen by unfold maxLen; omega), fun _ => ⟨k + 1, 0, rfl, by omega, fun j r hr => ?_⟩⟩
   match j, hr with
   | 0, hr =>
     obtain rfl : (⟨sAWest, ⟨#[]⟩⟩ : Pr) = r := by simpa [shelfP2] using hr
     exact ⟨⟨h2 0 _ rfl, h2 1 _ rfl⟩, by unfold maxLen; decide, by unfold maxLen; decide⟩
   | 1, hr =>
     obtain rfl : (⟨sMidS, smst⟩ : Pr) = r := by simpa [shelfP2] using hr
     exact ⟨⟨h2 2 _ rfl, h2 3 _ rfl⟩, by unfold maxLen; decide, by unfold maxLen; decide⟩
   | j + 2, hr => simp [shelfP2] at hr
 | i + 2, hq => simp [shelfB] at hq
end Go.Proofs.YtbbbeldbhlehnaaGreatDoor
end
