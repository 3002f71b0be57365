/- Parts of a proof, laid together. -/
import Derived.BigQuiet
import Derived.Test.YtbbbeldbhlehnaaGreatDoorMUTrB230
import Derived.Test.YtbbbeldbhlehnaaGreatDoorMUTrB24
import Derived.Test.YtbbbeldbhlehnaaGreatDoorMUTrB226
import Derived.Test.YtbbbeldbhlehnaaGreatDoorMUTrB29
import Derived.Test.YtbbbeldbhlehnaaGreatDoorMUTrB227
set_option linter.unusedSimpArgs false
set_option linter.unusedVariables false
section
namespace Go.Proofs.YtbbbeldbhlehnaaGreatDoor
open Go.RowKit Gno
set_option maxRecDepth 100000 in
theorem insStr_none (A : Option Addr) (cap : Nat) (w : World) :
 Calls Tryz.prog 189 #[.slice A 0 cap, .int .i64 0, .int .i64 0] w fun e w' => e = .returned (.tuple #[]) ∧ w = w' := by
 go_enter Tryz.func189, Tryz.ntmps189
 go_wp2
 refine wp_loop_rounds 1 ?_
 rw [rounds_succ]
 go_wp2
 go_end0
 exact ⟨rfl, rfl⟩
set_option maxRecDepth 100000 in
theorem pdqStr_none (A : Option Addr) (cap : Nat) (k : Int) (w : World) :
 Calls Tryz.prog 139 #[.slice A 0 cap, .int .i64 0, .int .i64 0, .int .i64 k] w fun e w' => e = .returned (.tuple #[]) ∧ w = w' := by
 have C := Lib.hid (insStr_none A cap)
 go_enter Tryz.func139, Tryz.ntmps139
 go_wp2
 refine wp_loop_rounds 1 ?_
 rw [rounds_succ]
 go_wp2_with (go_at_call 189; (with_reducible refine (C.out _).mono ?_); rintro e w1 ⟨rfl, rfl⟩)
 (try simp only [Exit.inBlock, Exit.then]); refine bodyPost_ret (results_none rfl _ _ _) rfl ?_
 exact ⟨rfl, rfl⟩
set_option maxRecDepth 100000 in
theorem sortStr_none (A : Option Addr) (cap : Nat) (w : World) :
 Calls Tryz.prog 61 #[.slice A 0 cap] w fun e w' => e = .returned (.tuple #[]) ∧ w = w' := by
 have C := Lib.hid (fun k => pdqStr_none A cap k)
 have L := Lib.hid (fun w => Go.Proofs.Tryz.bits_Len 0 w (by decide) (by decide))
 go_enter Tryz.func61, Tryz.ntmps61
 go_wp2_with (first | (go_at_call 140; (with_reducible refine (L.out _).mono ?_); rintro e w1 ⟨rfl, rfl⟩) | (go_at_call 139; (with_reducible refine (C.out _ _).mono ?_); rintro e w1 ⟨rfl, rfl⟩))
 go_end0
 exact ⟨rfl, rfl⟩
theorem sort_ownS {w : World} {B n : Nat} {v : Value} {l : List ByteArray} (h : w.ownsRow B 9 1 v n (strs l)) (hn : n ≤ 1000) :
 Calls Tryz.prog 61 #[v] w fun e w' => e = .returned (.tuple #[]) ∧ w'.ownsRow B 9 1 v n (strs (sortB l)) ∧ w.grownBy w' v.ownBlock := by
 have hl : l.length = n := by have := h.1; unfold strs at this; simpa using this
 rcases h.2 with ⟨rfl, rfl⟩ | ⟨g, cap, cur, rfl, _⟩
 ·have e : l = [] := List.eq_nil_of_length_eq_zero hl
  subst e
  refine (sortStr_none none 0 w).mono ?_
  rintro e w' ⟨rfl, rfl⟩
  exact ⟨rfl, by simpa [sortB] using h, ⟨rfl, rfl, rfl, Nat.le_refl _, fun _ _ _ => rfl⟩⟩
 ·refine (sort_strs h (by omega)).mono ?_
  rintro e w' ⟨rfl, h1, h2⟩
  exact ⟨rfl, h1, h2⟩
end Go.Proofs.YtbbbeldbhlehnaaGreatDoor
end
section
namespace Gno
open Go
theorem metaU_no {l : List Us} {zone : ByteArray} {t : Int} (h : metaN l zone t < 0) : metaU l zone t = ⟨#[]⟩ := by
 unfold metaU
 cases l[(metaN l zone t).toNat]? with
 | none => rfl
 | some u => simp only; rw [if_pos h]
theorem metaU_at {l : List Us} {zone : ByteArray} {t : Int} {u : Us} (h : ¬ metaN l zone t < 0) (hu : l[(metaN l zone t).toNat]? = some u) : metaU l zone t = u.mt := by
 unfold metaU
 rw [hu]
 simp only
 rw [if_neg h]
theorem metaN_is (l : List Us) (zone : ByteArray) (t : Int) : -1 ≤ metaN l zone t ∧ metaN l zone t < l.length ∧ (¬ metaN l zone t < 0 → ∃ u, l[(metaN l zone t).toNat]? = some u) := by
 have h := fst_range (isUse zone t) l 0
 have h1 : -1 ≤ metaN l zone t := by unfold metaN; omega
 have h2 : metaN l zone t < l.length := by unfold metaN; omega
 exact ⟨h1, h2, fun h3 => ⟨l[(metaN l zone t).toNat]'(by omega), List.getElem?_eq_getElem _⟩⟩
end Gno
namespace Go.Proofs.YtbbbeldbhlehnaaGreatDoor
open Go.RowKit Gno
theorem isUse_any (u : Us) (zone : ByteArray) (t : Int) (zb tb : Nat) (w : World) (hz : w.cell? ⟨zb, 0, none⟩ = some (.string zone)) (ht : w.cell? ⟨tb, 0, none⟩ = some (.int .i64 t)) :
 Calls Tryz.prog 244 #[.agg #[.string u.zone, .int .i64 u.fr, .int .i64 u.til, .string u.mt], .pointer (some ⟨zb, 0, none⟩), .pointer (some ⟨tb, 0, none⟩)] w fun e w' => e = .returned (.bool (isUse zone t u)) ∧ Below w.heap.size w w' := by
 have HB : Hid (Below w.heap.size w (w.alloc (.cells #[.string u.zone, .int .i64 u.fr, .int .i64 u.til, .string u.mt] 151))) := Lib.hid ((Below.refl _ _).alloc (Nat.le_refl _) _)
 have n0 : w.heap.size ≠ zb := World.new_ne w _ hz
 have n1 : w.heap.size ≠ tb := World.new_ne w _ ht
 have hz2 : (w.alloc (.cells #[.string u.zone, .int .i64 u.fr, .int .i64 u.til, .string u.mt] 151)).cell? ⟨zb, 0, none⟩ = some (.string zone) := by rw [World.cell?_alloc_past _ _ _ (lt_of_cell' hz)]; exact hz
 have ht2 : (w.alloc (.cells #[.string u.zone, .int .i64 u.fr, .int .i64 u.til, .string u.mt] 151)).cell? ⟨tb, 0, none⟩ = some (.int .i64 t) := by rw [World.cell?_alloc_past _ _ _ (lt_of_cell' ht)]; exact ht
 cases h1 : (u.zone.toList == zone.toList)
 ·have e : isUse zone t u = false := by unfold isUse same; rw [h1]; rfl
  rw [e]
  clear e
  go_enter Tryz.func244, Tryz.ntmps244
  go_wp2
  go_ret
  exact ⟨rfl, HB.out⟩
 ·cases h2 : decide (u.fr ≤ t)
  ·have e : isUse zone t u = false := by unfold isUse; rw [h2]; simp
   rw [e]
   clear e
   go_enter Tryz.func244, Tryz.ntmps244
   go_wp2
   go_ret
   exact ⟨rfl, HB.out⟩
  ·cases h3 : decide (t < u.til)
   ·have e : isUse zone t u = false := by unfold isUse; rw [h3]; simp
    rw [e]
    clear e
    go_enter Tryz.func244, Tryz.ntmps244
    go_wp2
    go_ret
    exact ⟨rfl, HB.out⟩
   ·have e : isUse zone t u = true := by unfold isUse same; rw [h1, h2, h3]; rfl
    rw [e]
    clear e
    go_enter Tryz.func244, Tryz.ntmps244
    go_wp2
    go_ret
    exact ⟨rfl, HB.out⟩
set_option maxRecDepth 100000 in
set_option maxHeartbeats 4000000 in
theorem usesOf_any (A : Option Addr) (n cap : Nat) (l : List Us) (zone : ByteArray) (t : Int) (w : World) (hU : UsesAt w w.heap.size A n l) :
 Calls Tryz.prog 202 #[.slice A n cap, .string zone, .int .i64 t] w fun e w' => e = .returned (.string (metaU l zone t)) ∧ Below w.heap.size w w' := by
 have hmf : ∀ (fn : Fn) (first cap : Array Value) (w : World), (Instr.makeFunc fn first cap).run Tryz.prog w = .ok (.func fn first cap) w := fun _ _ _ _ => rfl
 have hnl : n ≤ 9223372036854775807 := hU.2.1
 have hlen : l.length = n := hU.1
 obtain ⟨W1, hW1⟩ : ∃ W1, W1 = (w.alloc (.cells #[.string zone] 9)).alloc (.cells #[.int .i64 t] 3) := ⟨_, rfl⟩
 have hb1 : Below w.heap.size w W1 := by rw [hW1]; exact ((Below.refl _ _).alloc (Nat.le_refl _) _).alloc (by simp) _
 have k0 : W1.heap[w.heap.size]? = some (.cells #[.string zone] 9 (0, 0)) := by
  rw [hW1]; exact (Below.heap_alloc _ _ _ (by simp)).trans (World.alloc_heap_new w _)
 have k1 : W1.heap[w.heap.size + 1]? = some (.cells #[.int .i64 t] 3 (0, 0)) := by
  have h := World.alloc_heap_new (w.alloc (.cells #[.string zone] 9)) (.cells #[.int .i64 t] 3)
  rw [show (w.alloc (.cells #[.string zone] 9)).heap.size = w.heap.size + 1 by simp] at h
  rw [hW1]; exact h
 have hz1 : W1.heap.size = w.heap.size + 1 + 1 := by rw [hW1]; simp
 have C : Hid (Calls Tryz.prog 164 #[.slice A n cap, .func (.func 244) #[] #[.pointer (some ⟨w.heap.size, 0, none⟩), .pointer (some ⟨w.heap.size + 1, 0, none⟩)]] W1 fun e w' => e = .returned (.int .i64 (metaN l zone t)) ∧ Below W1.heap.size W1 w') := Lib.hid (
  indexUse_any 244 #[.pointer (some ⟨w.heap.size, 0, none⟩), .pointer (some ⟨w.heap.size + 1, 0, none⟩)] (enters_of Tryz.func244 (by kernel_rfl) rfl) (isUse zone t) A n cap l W1 (hU.next hb1) (fun W u hu hW => isUse_any u zone t w.heap.size (w.heap.size + 1) W
   ((hW.cell (p := ⟨w.heap.size, 0, none⟩) (by show w.heap.size < W1.heap.size; omega)).trans (cell_ofU k0 rfl)) ((hW.cell (p := ⟨w.heap.size + 1, 0, none⟩) (by show w.heap.size + 1 < W1.heap.size; omega)).trans (cell_ofU k1 rfl))))
 have HB1 := Lib.hid hb1
 have HG := Lib.hid (fun W (h : Below W1.heap.size W1 W) i (hi : i < n) => uses_get (hU.next (hb1.trans (h.mono hb1.size))) hi)
 obtain ⟨hm1, hm2, hm3⟩ := metaN_is l zone t
 have HN := Lib.hid (metaU_no (l := l) (zone := zone) (t := t))
 have HA := Lib.hid (fun u => metaU_at (l := l) (zone := zone) (t := t) (u := u))
 obtain ⟨K, hK⟩ : ∃ K, K = metaN l zone t := ⟨_, rfl⟩
 rw [← hK] at C hm1 hm2 hm3 HN HA
 clear hK hU hb1 k0 k1
 by_cases hk : K < 0
 ·rw [HN.out hk]
  clear HN HA HG hm3
  subst hW1
  go_enter Tryz.func202, Tryz.ntmps202
  go_wp2_with (go_at_call 164; (with_reducible refine C.out.mono ?_); rintro e w4 ⟨rfl, hb4⟩)
  go_ret
  exact ⟨rfl, HB1.out.trans (hb4.mono HB1.out.size)⟩
 ·obtain ⟨u, hu⟩ := hm3 hk
  rw [HA.out u hk hu]
  have hKn : K.toNat < n := by omega
  clear HN HA
  have HU := Lib.hid hu
  have HG2 : Hid (∀ W, Below W1.heap.size W1 W → ∃ b o, A = some ⟨b, o, none⟩ ∧ UsAt W b (o + K.toNat * 4) u) := Lib.hid (fun W h => by
   obtain ⟨b, o, q, e1, _, e2, _, _, e3⟩ := HG.out W h K.toNat hKn
   rw [HU.out] at e2
   injection e2 with e2
   subst e2
   exact ⟨b, o, e1, e3 W (Below.refl _ _)⟩)
  clear hu HG
  subst hW1
  go_enter Tryz.func202, Tryz.ntmps202
  go_wp2_with fail
  refine C.out.mono ?_
  rintro e w4 ⟨rfl, hb4⟩
  obtain ⟨b, o, rfl, c0, c1, c2, c3⟩ := HG2.out _ hb4
  have hfin := HB1.out.trans (hb4.mono HB1.out.size)
  have i1 : 0 ≤ K := by omega
  have i2 : K < (n : Int) := by omega
  clear hb4 C HG2 HB1
  go_wp2
  go_ret
  exact ⟨rfl, hfin⟩
end Go.Proofs.YtbbbeldbhlehnaaGreatDoor
end
section
namespace Gno
open Go
end Gno
namespace Go.Proofs.YtbbbeldbhlehnaaGreatDoor
open Go.RowKit Gno
set_option maxRecDepth 100000 in
set_option maxHeartbeats 4000000 in
theorem metaOfR_any (A : Option Addr) (n cap : Nat) (l : List Us) (zone : ByteArray) (t : Int) (w : World) (hU : UsesAt w w.heap.size A n l) :
 Calls Tryz.prog 79 #[.slice A n cap, .string zone, .int .i64 t] w fun e w' => e = .returned (.string (metaU l zone t)) ∧ Below w.heap.size w w' := by
 have hn : n ≤ 9223372036854775807 := hU.2.1
 have HR := Lib.hid hU
 have HN := Lib.hid (metaU_no (l := l) (zone := zone) (t := t))
 have HA := Lib.hid (fun u => metaU_at (l := l) (zone := zone) (t := t) (u := u))
 clear hU
 go_enter Tryz.func79, Tryz.ntmps79
 go_wp2
 go_loopw [7] (fun b0 wr => ∃ i : Nat, i ≤ n ∧ b0 = .int .i64 i ∧ Hid (fst (isUse zone t) (l.drop i) i = metaN l zone t) ∧ Below w.heap.size w wr) (fun b0 _ => n - (intOf b0).toNat)
 case atStart => exact ⟨0, Nat.zero_le _, rfl, Lib.hid (by simp [metaN]), Below.refl _ _⟩
 case round =>
  obtain ⟨i, hi, rfl, hfd, hb⟩ := hrel
  by_cases hlt : i < n
  ·obtain ⟨b, o, q, hA, hbB, hq, hqs, hqs2, hqq⟩ := uses_get HR.out hlt
   subst hA
   obtain ⟨e0, e1, e2, e3⟩ := hqq _ hb
   have FD := Lib.hid (fst_drop (p := isUse zone t) hq)
   have HQ := Lib.hid hq
   clear hq hqq
   cases h1 : (q.zone.toList == zone.toList)
   ·have HX := Lib.hid ((FD.out.2 (by unfold isUse same; rw [h1]; rfl)).symm.trans hfd.out)
    clear hfd FD
    go_wp2
    go_roundw
    case rel => exact ⟨i + 1, by omega, by go_num, HX, hb⟩
    case measure => simp [intOf]; omega
   ·cases h2 : decide (q.fr ≤ t)
    ·have HX := Lib.hid ((FD.out.2 (by unfold isUse; rw [h2]; simp)).symm.trans hfd.out)
     clear hfd FD
     go_wp2
     go_roundw
     case rel => exact ⟨i + 1, by omega, by go_num, HX, hb⟩
     case measure => simp [intOf]; omega
    ·cases h3 : decide (t < q.til)
     ·have HX := Lib.hid ((FD.out.2 (by unfold isUse; rw [h3]; simp)).symm.trans hfd.out)
      clear hfd FD
      go_wp2
      go_roundw
      case rel => exact ⟨i + 1, by omega, by go_num, HX, hb⟩
      case measure => simp [intOf]; omega
     ·have HX := Lib.hid ((FD.out.1 (by unfold isUse same; rw [h1, h2, h3]; rfl)).symm.trans hfd.out)
      have HM : Hid (metaU l zone t = q.mt) := Lib.hid (HA.out q (by rw [← HX.out]; omega) (by rw [← HX.out]; exact HQ.out))
      clear hfd FD HX
      go_wp2
      go_ret
      exact ⟨by rw [HM.out]; rfl, hb⟩
  ·have HX := Lib.hid ((fst_end (p := isUse zone t) (by have := HR.out.1; omega)).symm.trans hfd.out)
   have HM : Hid (metaU l zone t = ⟨#[]⟩) := Lib.hid (HN.out (by rw [← HX.out]; omega))
   clear hfd HX
   go_wp2
   go_ret
   exact ⟨by rw [HM.out]; rfl, hb⟩
end Go.Proofs.YtbbbeldbhlehnaaGreatDoor
end
section
namespace Go.Proofs.YtbbbeldbhlehnaaGreatDoor
open Go.RowKit Gno
end Go.Proofs.YtbbbeldbhlehnaaGreatDoor
end
section
namespace Gno
open Go
noncomputable def zonesR (d : Dt) (l : List Us) (mt : ByteArray) (t : Int) : List ByteArray := if zonesE d l mt t = 0 then zonesS d l mt t else []
def zonesUp (d : Dt) (l : List Us) (mt : ByteArray) (t : Int) (i : Nat) : List ByteArray := ((d.zs.take i).filter (zoneHas l mt t)).map (·.name)
end Gno
namespace Go.Proofs.YtbbbeldbhlehnaaGreatDoor
open Go.RowKit Gno
theorem own_belowU {w W : World} {B K sz n : Nat} {e : TypeId} {v : Value} {xs : List Value} (h : w.ownsRow B e sz v n xs) (hb : Below K w W) (hK : w.heap.size ≤ K) : W.ownsRow B e sz v n xs := by
 refine ⟨h.1, ?_⟩
 rcases h.2 with h | ⟨g, cap, cur, h1, h2, h3, h4⟩
 ·exact .inl h
 ·exact .inr ⟨g, cap, cur, h1, h2, (hb.block g (by have := (Array.getElem?_eq_some_iff.1 h3).1; omega)).trans h3, h4⟩
end Go.Proofs.YtbbbeldbhlehnaaGreatDoor
end
section
namespace Gno
open Go
end Gno
namespace Go.Proofs.YtbbbeldbhlehnaaGreatDoor
open Go.RowKit Gno
theorem strs_at {l : List ByteArray} {i : Nat} {x : ByteArray} (h : l[i]? = some x) : (strs l)[i]? = some (.string x) := by unfold strs; simp [h]
theorem own_cellU {w : World} {B : Nat} {e : TypeId} {sz g n cap : Nat} {xs : List Value} (h : w.ownsRow B e sz (.slice (some ⟨g, 0, none⟩) n cap) n xs) {j : Nat} {u : Value} (hj : xs[j]? = some u) : w.cell? ⟨g, j, none⟩ = some u := by
 have := h.cells (g := g) rfl j u hj
 rwa [addP, Nat.zero_add] at this
theorem own_freeU {w : World} {B : Nat} {e : TypeId} {sz g n cap : Nat} {xs : List Value} (h : w.ownsRow B e sz (.slice (some ⟨g, 0, none⟩) n cap) n xs) (j : Nat) : w.frozen? ⟨g, j, none⟩ = false := by
 obtain ⟨cur, _, hg, _⟩ := own_blockR h
 simp [World.frozen?, hg]
theorem own_formU {w : World} {B : Nat} {e : TypeId} {sz n : Nat} {v : Value} {xs : List Value} (h : w.ownsRow B e sz v n xs) : ∃ A cap, v = .slice A n cap ∧ (0 < n → ∃ g, A = some ⟨g, 0, none⟩) := by
 rcases h.2 with ⟨rfl, rfl⟩ | ⟨g, cap, cur, rfl, _⟩
 ·exact ⟨none, 0, rfl, fun h => absurd h (by omega)⟩
 ·exact ⟨_, cap, rfl, fun _ => ⟨g, rfl⟩⟩
theorem drewN_ownU {w : World} {B : Nat} {e : TypeId} {sz n q : Nat} {v : Value} {xs : List Value} (h : w.ownsRow B e sz v n xs) : (w.drewN q).ownsRow B e sz v n xs := h
end Go.Proofs.YtbbbeldbhlehnaaGreatDoor
end
section
namespace Go.Proofs.YtbbbeldbhlehnaaGreatDoor
open Go.RowKit Gno
theorem own_baseU {w : World} {B C sz n : Nat} {e : TypeId} {v : Value} {xs : List Value} (h : w.ownsRow B e sz v n xs) (hC : C ≤ B) : w.ownsRow C e sz v n xs := by
 refine ⟨h.1, ?_⟩
 rcases h.2 with h | ⟨g, cap, cur, h1, h2, h3⟩
 ·exact .inl h
 ·exact .inr ⟨g, cap, cur, h1, by omega, h3⟩
end Go.Proofs.YtbbbeldbhlehnaaGreatDoor
end
section
namespace Go.Proofs.YtbbbeldbhlehnaaGreatDoor
open Go.RowKit Gno
set_option maxRecDepth 100000 in
set_option maxHeartbeats 4000000 in
theorem sameTexts_any (v v' : Value) (n B1 B2 : Nat) (l : List ByteArray) (w : World) (h : w.ownsRow B1 9 1 v n (strs l)) (h' : w.ownsRow B2 9 1 v' n (strs l)) (hn : n ≤ 1000) :
 Calls Tryz.prog 28 #[v, v'] w fun e w' => e = .returned (.bool true) ∧ Below w.heap.size w w' := by
 have hl : l.length = n := by have := h.1; unfold strs at this; simpa using this
 obtain ⟨A, cap, rfl, hA⟩ := own_formU h
 obtain ⟨A', cap', rfl, hA'⟩ := own_formU h'
 have HRD : Hid (∀ i x, l[i]? = some x → ∃ g g', A = some ⟨g, 0, none⟩ ∧ A' = some ⟨g', 0, none⟩ ∧ ∀ W, Below w.heap.size w W → W.cell? ⟨g, i, none⟩ = some (.string x) ∧ W.cell? ⟨g', i, none⟩ = some (.string x)) := Lib.hid (fun i x hx => by
  have hi := (List.getElem?_eq_some_iff.1 hx).1
  obtain ⟨g, rfl⟩ := hA (by omega)
  obtain ⟨g', rfl⟩ := hA' (by omega)
  exact ⟨g, g', rfl, rfl, fun W hW => ⟨(hW.cell (h.lt g rfl).2).trans (own_cellU h (strs_at hx)), (hW.cell (h'.lt g' rfl).2).trans (own_cellU h' (strs_at hx))⟩⟩)
 have HL := Lib.hid hl
 have hne : ((n : Int) != (n : Int)) = false := by simp
 clear h h' hA hA' hl
 go_enter Tryz.func28, Tryz.ntmps28
 go_wp2
 go_loopw [5] (fun b0 wr => ∃ i : Nat, i ≤ n ∧ b0 = .int .i64 i ∧ Hid (Below w.heap.size w wr)) (fun b0 _ => n - (intOf b0).toNat)
 case atStart => exact ⟨0, Nat.zero_le _, rfl, Lib.hid (Below.refl _ _)⟩
 case round =>
  obtain ⟨i, hi, rfl, hb⟩ := hrel
  by_cases hlt : i < n
  ·obtain ⟨x, hx⟩ : ∃ x, l[i]? = some x := ⟨_, List.getElem?_eq_getElem (by rw [HL.out]; exact hlt)⟩
   obtain ⟨g, g', rfl, rfl, hc⟩ := HRD.out i x hx
   obtain ⟨c0, c1⟩ := hc _ hb.out
   have hs : (x.toList == x.toList) = true := by simp
   clear hx hc
   go_wp2_with fail
   go_quiet (fail)
   have HB2 := Lib.hid (below_drewN hb.out nq)
   clear hb c0 c1
   go_wp2_with fail
   go_roundw
   case rel => exact ⟨i + 1, by omega, by go_num, HB2⟩
   case measure => simp [intOf]; omega
  ·go_wp2
   go_ret
   exact ⟨rfl, hb.out⟩
end Go.Proofs.YtbbbeldbhlehnaaGreatDoor
end
section
namespace Gno
open Go
def sMid : ByteArray := ⟨#[109, 105, 100]⟩
def sAx : ByteArray := ⟨#[97]⟩
def uCall : List Us := [⟨sOld, 500000000, 1893456000, sMid⟩, ⟨sAW, 0, 1000, sMid⟩]
def uOver : List Us := [⟨sOld, 500000000, 1893456000, sMid⟩, ⟨sOld, 0, 500000001, sAx⟩]
theorem eu_call (k : Nat) : usesE (euD k (-1) sOld) uCall = 0 := by
 unfold usesE
 rw [if_neg (by rw [eu_ok]; simp), if_neg (by decide), if_neg (by rw [show hasP badMt uCall = false from by kernel_rfl]; simp), if_neg (by rw [show hasP (noZone (euD k (-1) sOld)) uCall = false from by kernel_rfl]; simp),
  if_neg (by rw [show hasP badUse uCall = false from by kernel_rfl]; simp), if_neg (by rw [show overU uCall = false from by kernel_rfl]; simp)]
end Gno
namespace Go.Proofs.YtbbbeldbhlehnaaGreatDoor
open Go.RowKit Gno
abbrev calO : Obj := .cells #[.string ⟨#[69, 47, 79, 108, 100, 95, 84, 111, 119, 110]⟩, .int .i64 500000000, .int .i64 1893456000, .string ⟨#[109, 105, 100]⟩, .string ⟨#[65, 47, 87, 101, 115, 116]⟩, .int .i64 0, .int .i64 1000, .string ⟨#[109, 105, 100]⟩] 151
set_option maxRecDepth 100000 in
theorem called_any (w : World) : Calls Tryz.prog 88 #[] w fun e w' => e = .returned (.slice (some ⟨w.heap.size, 0, none⟩) 2 2) ∧ w' = w.alloc calO := by
 go_enter Tryz.func88, Tryz.ntmps88
 go_wp2
 go_ret
 exact ⟨rfl, rfl⟩
theorem cal_at {W : World} {b : Nat} (h : W.heap[b]? = some calO) : UsesAt W W.heap.size (some ⟨b, 0, none⟩) 2 uCall := by
 refine ⟨rfl, by unfold maxLen; omega, fun _ => ⟨b, 0, rfl, (Array.getElem?_eq_some_iff.1 h).1, fun i x hx => ?_⟩⟩
 match i, hx with
 | 0, hx =>
   obtain rfl : (⟨sOld, 500000000, 1893456000, sMid⟩ : Us) = x := by simpa [uCall] using hx
   exact ⟨⟨cell_of h rfl, cell_of h rfl, cell_of h rfl, cell_of h rfl⟩, (show (10 : Nat) ≤ maxLen by unfold maxLen; omega), (show (3 : Nat) ≤ maxLen by unfold maxLen; omega)⟩
 | 1, hx =>
   obtain rfl : (⟨sAW, 0, 1000, sMid⟩ : Us) = x := by simpa [uCall] using hx
   exact ⟨⟨cell_of h rfl, cell_of h rfl, cell_of h rfl, cell_of h rfl⟩, (show (6 : Nat) ≤ maxLen by unfold maxLen; omega), (show (3 : Nat) ≤ maxLen by unfold maxLen; omega)⟩
 | i + 2, hx => simp [uCall] at hx
end Go.Proofs.YtbbbeldbhlehnaaGreatDoor
end
section
namespace Go.Proofs.YtbbbeldbhlehnaaGreatDoor
open Go.RowKit Gno
abbrev ovO : Obj := .cells #[.string ⟨#[69, 47, 79, 108, 100, 95, 84, 111, 119, 110]⟩, .int .i64 500000000, .int .i64 1893456000, .string ⟨#[109, 105, 100]⟩, .string ⟨#[69, 47, 79, 108, 100, 95, 84, 111, 119, 110]⟩, .int .i64 0, .int .i64 500000001, .string ⟨#[97]⟩] 151
abbrev ecW (w : World) : World := (euW w).alloc calO
theorem ec_next {w0 w : World} (h : Below w0.heap.size w0 w) : Below w0.heap.size w0 (ecW w) := (euW_next h).alloc (euW_next h).size _
theorem ec_ctx (w : World) : EuIn (ecW w) w.heap.size (-1) sOld ∧ w.heap.size + 7 ≤ (ecW w).heap.size ∧ (ecW w).heap[(euW w).heap.size]? = some calO :=
 ⟨(euW_in w).below ((Below.refl _ _).alloc (Nat.le_refl _) _) (by rw [euW_size]; omega), by simp [ecW, euW_size], World.alloc_heap_new _ _⟩
section
variable {w0 w : World}
end
end Go.Proofs.YtbbbeldbhlehnaaGreatDoor
end
