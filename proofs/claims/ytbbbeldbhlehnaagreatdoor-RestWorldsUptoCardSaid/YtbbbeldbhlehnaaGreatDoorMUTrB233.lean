/- An argument of type World, opened, where it is small. -/
import Derived.Deep.RegionHeld3
import Derived.Deep.CutRange
import Derived.Test.YtbbbeldbhlehnaaGreatDoorShelf
import Derived.Laws.IdiomStrings
import Derived.Test.YtbbbeldbhlehnaaGreatDoorMUTrB232
import Derived.Test.YtbbbeldbhlehnaaGreatDoorMUTrB230
import Derived.Test.YtbbbeldbhlehnaaGreatDoorMUTrB210
import Derived.Test.YtbbbeldbhlehnaaGreatDoorMUTrB229
import Derived.Test.YtbbbeldbhlehnaaGreatDoorMUTrB27
import Derived.Test.YtbbbeldbhlehnaaGreatDoorMUTrB26
import Derived.Test.YtbbbeldbhlehnaaGreatDoorMUTrB231
import Derived.Test.YtbbbeldbhlehnaaGreatDoorMUTrB29
import Derived.Test.YtbbbeldbhlehnaaGreatDoorMUTrB228
set_option linter.unusedSimpArgs false
set_option linter.unusedVariables false
section
namespace Gno
open Go Go.RowKit Go.Proofs.YtbbbeldbhlehnaaGreatDoor
def WdAt (w : World) (x : Wd) : Prop := DataAt w w.heap.size x.d ∧ UsesAt w w.heap.size x.uA x.un x.us ∧ BooksAt w w.heap.size x.bA x.bn x.bs
theorem WdAt.next {w W : World} {x : Wd} (h : WdAt w x) (hb : Below w.heap.size w W) : WdAt W x := ⟨h.1.next hb, h.2.1.next hb, (h.2.2.below hb (Nat.le_refl _)).more hb.size⟩
def Wobj (x : Wd) : Obj := .cells #[.slice x.d.sA x.d.sn x.d.sc, .slice x.d.zA x.d.zn x.d.zc, .slice x.d.lA x.d.ln x.d.lc, .slice x.uA x.un x.uc, .slice x.bA x.bn x.bc] 30
def WdCells (W : World) (g : Nat) (x : Wd) : Prop := W.cell? ⟨g, 0, none⟩ = some (.slice x.d.sA x.d.sn x.d.sc) ∧ W.cell? ⟨g, 1, none⟩ = some (.slice x.d.zA x.d.zn x.d.zc) ∧ W.cell? ⟨g, 2, none⟩ = some (.slice x.d.lA x.d.ln x.d.lc) ∧ W.cell? ⟨g, 3, none⟩ = some (.slice x.uA x.un x.uc) ∧ W.cell? ⟨g, 4, none⟩ = some (.slice x.bA x.bn x.bc)
theorem wdCells_of {W : World} {g : Nat} {x : Wd} (h : W.heap[g]? = some (Wobj x)) : WdCells W g x := by
 unfold Wobj at h
 exact ⟨cell_ofU h rfl, cell_ofU h rfl, cell_ofU h rfl, cell_ofU h rfl, cell_ofU h rfl⟩
theorem boxW {x : Wd} {w W : World} (h : WdAt w x) (hb : Below (w.heap.size + 1) (w.alloc (Wobj x)) W) : Below w.heap.size w W ∧ WdAt W x ∧ WdCells W w.heap.size x := by
 have h1 : Below w.heap.size w W := ((Below.refl w.heap.size w).alloc (Nat.le_refl _) (Wobj x)).trans (hb.mono (by omega))
 have k2 := (hb.block w.heap.size (by omega)).trans (World.alloc_heap_new w (Wobj x))
 exact ⟨h1, h.next h1, wdCells_of k2⟩
theorem boxW_more {x : Wd} {w W V : World} (hb : Below (w.heap.size + 1) (w.alloc (Wobj x)) W) (h : Below W.heap.size W V) : Below (w.heap.size + 1) (w.alloc (Wobj x)) V := hb.trans (h.mono (by have := hb.size; simpa using this))
theorem worldE_uses {x : Wd} (h : usesE x.d x.us ≠ 0) : worldE x = usesE x.d x.us := by unfold worldE; rw [if_pos h]
theorem worldE_books {x : Wd} (h : usesE x.d x.us = 0) : worldE x = booksE x.bs := by unfold worldE; rw [if_neg (by simp [h])]
end Gno
namespace Go.Proofs.YtbbbeldbhlehnaaGreatDoor
open Go.RowKit Gno
set_option maxRecDepth 100000 in
set_option maxHeartbeats 4000000 in
theorem worldCk_any (x : Wd) (w : World) (hW : WdAt w x) (hM : MaxAt w w.heap.size) :
 Calls Tryz.prog 17 #[x.val] w fun e w' => e = .returned (.int .i64 (worldE x)) ∧ Below w.heap.size w w' := by
 have HX := Lib.hid (fun W (h : Below (w.heap.size + 1) (w.alloc (Wobj x)) W) => boxW hW h)
 have MX := Lib.hid (fun W (h : Below w.heap.size w W) => hM.next h)
 have U1 := Lib.hid (fun W (h : Below (w.heap.size + 1) (w.alloc (Wobj x)) W) => usesCk_any x.d x.uA x.un x.uc x.us W (HX.out W h).2.1.1 (MX.out W (HX.out W h).1) (HX.out W h).2.1.2.1)
 have B1 := Lib.hid (fun W (h : Below (w.heap.size + 1) (w.alloc (Wobj x)) W) => checkB_any x.bA x.bn x.bc x.bs W (HX.out W h).2.1.2.2)
 have hbb : Below (w.heap.size + 1) (w.alloc (Wobj x)) (w.alloc (Wobj x)) := Below.refl _ _
 unfold WdCells at HX
 clear hW hM
 unfold Dt.val at U1
 unfold Wd.val
 by_cases he : usesE x.d x.us = 0
 ·rw [worldE_books he]
  rw [he] at U1
  clear he
  go_enter Tryz.func17, Tryz.ntmps17
  go_wp2_with fail
  refine (U1.out _ hbb).mono ?_
  rintro e w1 ⟨rfl, h1⟩
  have H1 := Lib.hid (boxW_more hbb h1)
  obtain ⟨_, _, c0, c1, c2, c3, c4⟩ := HX.out _ H1.out
  clear h1 hbb
  go_wp2_with fail
  refine (B1.out _ H1.out).mono ?_
  rintro e w2 ⟨rfl, h2⟩
  have H2 := Lib.hid (HX.out _ (boxW_more H1.out h2)).1
  clear h2
  go_wp2
  go_ret
  exact ⟨rfl, H2.out⟩
 ·rw [worldE_uses he]
  obtain ⟨E, hE⟩ : ∃ E, E = usesE x.d x.us := ⟨_, rfl⟩
  rw [← hE] at U1 he ⊢
  clear hE
  have g1 : (E != 0) = true := by simpa using he
  clear he
  go_enter Tryz.func17, Tryz.ntmps17
  go_wp2_with fail
  refine (U1.out _ hbb).mono ?_
  rintro e w1 ⟨rfl, h1⟩
  have H1 := Lib.hid (HX.out _ (boxW_more hbb h1)).1
  clear h1 hbb
  go_wp2
  go_ret
  exact ⟨rfl, H1.out⟩
set_option maxRecDepth 100000 in
set_option maxHeartbeats 4000000 in
theorem worldR_any (x : Wd) (w : World) (hW : WdAt w x) :
 Calls Tryz.prog 18 #[x.val] w fun e w' => e = .returned (.int .i64 (worldE x)) ∧ Below w.heap.size w w' := by
 have HX := Lib.hid (fun W (h : Below (w.heap.size + 1) (w.alloc (Wobj x)) W) => boxW hW h)
 have U1 := Lib.hid (fun W (h : Below (w.heap.size + 1) (w.alloc (Wobj x)) W) => usesR_any x.d x.uA x.un x.uc x.us W (HX.out W h).2.1.1 (HX.out W h).2.1.2.1)
 have B1 := Lib.hid (fun W (h : Below (w.heap.size + 1) (w.alloc (Wobj x)) W) => checkR_any x.bA x.bn x.bc x.bs W (HX.out W h).2.1.2.2)
 have hbb : Below (w.heap.size + 1) (w.alloc (Wobj x)) (w.alloc (Wobj x)) := Below.refl _ _
 unfold WdCells at HX
 clear hW
 unfold Dt.val at U1
 unfold Wd.val
 by_cases he : usesE x.d x.us = 0
 ·rw [worldE_books he]
  rw [he] at U1
  clear he
  go_enter Tryz.func18, Tryz.ntmps18
  go_wp2_with fail
  refine (U1.out _ hbb).mono ?_
  rintro e w1 ⟨rfl, h1⟩
  have H1 := Lib.hid (boxW_more hbb h1)
  obtain ⟨_, _, c0, c1, c2, c3, c4⟩ := HX.out _ H1.out
  clear h1 hbb
  go_wp2_with fail
  refine (B1.out _ H1.out).mono ?_
  rintro e w2 ⟨rfl, h2⟩
  have H2 := Lib.hid (HX.out _ (boxW_more H1.out h2)).1
  clear h2
  go_wp2
  go_ret
  exact ⟨rfl, H2.out⟩
 ·rw [worldE_uses he]
  obtain ⟨E, hE⟩ : ∃ E, E = usesE x.d x.us := ⟨_, rfl⟩
  rw [← hE] at U1 he ⊢
  clear hE
  have g1 : (E != 0) = true := by simpa using he
  clear he
  go_enter Tryz.func18, Tryz.ntmps18
  go_wp2_with fail
  refine (U1.out _ hbb).mono ?_
  rintro e w1 ⟨rfl, h1⟩
  have H1 := Lib.hid (HX.out _ (boxW_more hbb h1)).1
  clear h1 hbb
  go_wp2
  go_ret
  exact ⟨rfl, H1.out⟩
end Go.Proofs.YtbbbeldbhlehnaaGreatDoor
end
section
namespace Gno
open Go Go.RowKit Go.Proofs.YtbbbeldbhlehnaaGreatDoor
def CalAt (W : World) (c g : Nat) (x : Wd) (k t : Int) : Prop :=
 (W.cell? ⟨c, 0, none⟩ = some (.pointer (some ⟨g, 0, none⟩)) ∧ W.cell? ⟨c, 1, none⟩ = some (.int .i64 k) ∧ W.cell? ⟨c, 2, none⟩ = some (.int .i64 t)) ∧ WdCells W g x
theorem lt_of_cellN {W : World} {b o : Nat} {v : Value} (h : W.cell? ⟨b, o, none⟩ = some v) : b < W.heap.size := World.block_lt_of_cell? W _ h
theorem CalAt.next {W V : World} {c g : Nat} {x : Wd} {k t : Int} (h : CalAt W c g x k t) (hb : Below W.heap.size W V) : CalAt V c g x k t := by
 obtain ⟨⟨c0, c1, c2⟩, d0, d1, d2, d3, d4⟩ := h
 have hc := lt_of_cellN c0
 have hg := lt_of_cellN d0
 exact ⟨⟨(hb.cell hc).trans c0, (hb.cell hc).trans c1, (hb.cell hc).trans c2⟩, (hb.cell hg).trans d0, (hb.cell hg).trans d1, (hb.cell hg).trans d2, (hb.cell hg).trans d3, (hb.cell hg).trans d4⟩
theorem off_quo {a : Int} (h : -57600 ≤ a ∧ a ≤ 57600) : IntKind.i64.wrap (IntKind.i64.wrap (a.tdiv 60) * 60) = a - a.tmod 60 := by
 have h1 := Int.tmod_add_tdiv_mul a 60
 obtain ⟨q, hq⟩ : ∃ q, q = a.tdiv 60 := ⟨_, rfl⟩
 rw [← hq] at h1 ⊢
 have hb : (-60 < a.tmod 60 ∧ a.tmod 60 < 60) := by
  rcases Int.le_total 0 a with h | h
  ·have e : a.tmod 60 = a % 60 := Int.tmod_eq_emod_of_nonneg h
   rw [e]; omega
  ·obtain ⟨b, hb⟩ : ∃ b, a = -b := ⟨-a, by omega⟩
   have e : a.tmod 60 = -(b % 60) := by rw [hb, Int.neg_tmod, Int.tmod_eq_emod_of_nonneg (by omega)]
   rw [e]; omega
 rw [IntKind.wrap_i64, IntKind.wrap_i64]
 omega
end Gno
namespace Go.Proofs.YtbbbeldbhlehnaaGreatDoor
open Go.RowKit Gno
theorem off_field0 (T Sv : Int) (Ab : ByteArray) (w : World) : (Instr.field 46 (.agg #[.int .i64 T, .int .i64 Sv, .string Ab]) 0).run Tryz.prog w = .ok (.int .i64 T) w := by kernel_rfl
theorem off_field1 (T Sv : Int) (Ab : ByteArray) (w : World) : (Instr.field 46 (.agg #[.int .i64 T, .int .i64 Sv, .string Ab]) 1).run Tryz.prog w = .ok (.int .i64 Sv) w := by kernel_rfl
set_option maxRecDepth 100000 in
set_option maxHeartbeats 4000000 in
theorem callOff_any (x : Wd) (c g : Nat) (k t : Int) (i : Nat) (z : Zn) (w : World) (hW : WdAt w x) (hM : MaxAt w w.heap.size) (hC : CalAt w c g x k t) (hr : RightE x.d) (hz : x.d.zs[i]? = some z) (ht : t < 1893456000) :
 Calls Tryz.prog 149 #[.pointer (some ⟨c, 0, none⟩), .int .i64 i] w fun e w' => e = .returned (.string (offS x.d z t)) ∧ Below w.heap.size w w' := by
 have hbd := offTo_bd hr (List.mem_of_getElem? hz) ht
 have HC := Lib.hid (fun W (h : Below w.heap.size w W) => hC.next h)
 have O1 : Hid (∀ W, Below w.heap.size w W → Calls Tryz.prog 52 #[.agg #[.slice x.d.sA x.d.sn x.d.sc, .slice x.d.zA x.d.zn x.d.zc, .slice x.d.lA x.d.ln x.d.lc], .int .i64 i, .int .i64 t] W fun e w' => e = .returned (.agg #[.int .i64 (offTo x.d (eraOf z t) t), .int .i64 (offSv x.d (eraOf z t) t), .string (offAb x.d (eraOf z t) t)]) ∧ Below w.heap.size w w') := Lib.hid fun W h =>
  (of_any x.d i t z W (hW.next h).1 (hM.next h) hr (by simpa using hz) (by omega) ht).mono fun _ _ q => ⟨q.1, h.trans (q.2.mono h.size)⟩
 have S1 := Lib.hid (fun W => show_any 3 (offN x.d z t) (by decide) W)
 have hsh : showE 3 (offN x.d z t) = 0 := offS_ok hr (List.mem_of_getElem? hz) ht
 have hq := off_quo hbd
 unfold offS
 rw [show offTo x.d (eraOf z t) t - (offTo x.d (eraOf z t) t).tmod 60 = offN x.d z t from rfl] at hq
 rw [hsh] at S1
 obtain ⟨T, hT⟩ : ∃ T, T = offTo x.d (eraOf z t) t := ⟨_, rfl⟩
 obtain ⟨Sv, hSv⟩ : ∃ T, T = offSv x.d (eraOf z t) t := ⟨_, rfl⟩
 obtain ⟨Ab, hAb⟩ : ∃ T, T = offAb x.d (eraOf z t) t := ⟨_, rfl⟩
 obtain ⟨N, hN⟩ : ∃ N, N = offN x.d z t := ⟨_, rfl⟩
 rw [← hT, ← hSv, ← hAb] at O1
 rw [← hT] at hq hbd
 rw [← hN] at hq S1 ⊢
 have hb0 : Below w.heap.size w w := Below.refl _ _
 have HB0D : Hid (Below w.heap.size w w.drew) := Lib.hid hb0.drew
 clear hW hM hC hr hz ht hT hSv hAb hN hsh
 unfold CalAt WdCells at HC
 have hfl : ∀ w, (Instr.field 46 (.agg #[.int .i64 T, .int .i64 Sv, .string Ab]) 0).run Tryz.prog w = .ok (.int .i64 T) w := fun w => off_field0 T Sv Ab w
 go_enter Tryz.func149, Tryz.ntmps149
 go_upto_region 1 with fail
 go_cut [5] from 8 to 23 (fun sa wx => sa = .int .i64 N ∧ Hid (Below w.heap.size w wx))
 case first =>
  obtain ⟨⟨c0, c1, c2⟩, d0, d1, d2, d3, d4⟩ := HC.out _ HB0D.out
  go_region_held3 (fun w' => Below w.heap.size w w' ∧ w'.cell? ⟨c, 0, none⟩ = some (.pointer (some ⟨g, 0, none⟩)) ∧ w'.cell? ⟨c, 2, none⟩ = some (.int .i64 t) ∧ w'.cell? ⟨g, 0, none⟩ = some (.slice x.d.sA x.d.sn x.d.sc) ∧ w'.cell? ⟨g, 1, none⟩ = some (.slice x.d.zA x.d.zn x.d.zc) ∧ w'.cell? ⟨g, 2, none⟩ = some (.slice x.d.lA x.d.ln x.d.lc))
   (refine ⟨?_, ?_, ?_, ?_, ?_, ?_⟩ <;> (first | assumption | exact HB0D.out | exact Below.drew (by assumption) | go_keep))
   (first
    | (go_at_call 52; refine (O1.out _ (by first | assumption | exact HB0D.out)).mono ?_; rintro e w5 ⟨rfl, hb5⟩; clear c0 c1 c2 d0 d1 d2 d3 d4; obtain ⟨⟨c0, c1, c2⟩, d0, d1, d2, d3, d4⟩ := HC.out _ hb5))
  all_goals
   go_wp2_with fail
   go_meet
   exact ⟨by first | rfl | rw [hq], Lib.hid (by assumption)⟩
 case rest =>
  obtain ⟨rfl, hbA⟩ := hcut
  obtain ⟨vA, hvA⟩ : ∃ v : World, v = wc := ⟨_, rfl⟩
  rw [← hvA] at hbA
  rw [← hvA]
  clear hvA hq hbd
  go_wp2_with fail
  refine (S1.out _).mono ?_
  rintro e w5 ⟨rfl, hb5⟩
  have HF := Lib.hid (hbA.out.trans (hb5.mono hbA.out.size))
  clear hb5
  go_wp2
  go_ret
  exact ⟨rfl, HF.out⟩
end Go.Proofs.YtbbbeldbhlehnaaGreatDoor
end
section
namespace Gno
open Go Go.RowKit
theorem slash_bd (l : List UInt8) : -1 ≤ Lib.lastIndex l [47] ∧ Lib.lastIndex l [47] < l.length := by
 unfold Lib.lastIndex
 split
 ·rename_i h0
  have hl1 : 1 ≤ l.length := h0
  have hk : l.length - [(47 : UInt8)].length + 1 = l.length := by show l.length - 1 + 1 = _; omega
  rw [hk]
  rcases Lib.lastOcc_spec l [47] l.length with ⟨e, _⟩ | ⟨i, hi, e, _, _⟩
  ·rw [e]; omega
  ·rw [e]; omega
 ·omega
theorem city_is (s : ByteArray) (J : Nat) (hJ : Lib.lastIndex s.data.toList [47] + 1 = (J : Int)) (hJs : J ≤ s.size) : (⟨(Lib.replaceAll (s.extract J s.size).data.toList [95] [32]).toArray⟩ : ByteArray) = cityT s := by
 have hlen : s.data.toList.length = s.size := by rw [Array.length_toList]; rfl
 have h1 : (s.extract J s.size).data.toList = s.data.toList.drop (Lib.lastIndex s.data.toList [47] + 1).toNat := by
  rw [ex_list, hJ, Int.toNat_natCast, List.take_of_length_le (by rw [List.length_drop]; omega)]
 rw [h1, city_prog]
 rfl
def cityE (s : ByteArray) : Int := if nameOk s = true then 0 else 5
def citySt (s : ByteArray) : ByteArray := if nameOk s = true then cityT s else ⟨#[]⟩
end Gno
namespace Go.Proofs.YtbbbeldbhlehnaaGreatDoor
open Go.RowKit Gno
set_option maxRecDepth 100000 in
set_option maxHeartbeats 4000000 in
theorem city_any (s : ByteArray) (w : World) (hs : s.size ≤ 12) (hM : MaxAt w w.heap.size) :
 Calls Tryz.prog 44 #[.string s] w fun e w' => e = .returned (.string (cityT s)) ∧ Below w.heap.size w w' := by
 obtain ⟨m, hm⟩ := hM.2
 have hlen : s.data.toList.length = s.size := by rw [Array.length_toList]; rfl
 have hbd := slash_bd s.data.toList
 obtain ⟨J, hJ⟩ : ∃ J : Nat, Lib.lastIndex s.data.toList [47] + 1 = (J : Int) := ⟨(Lib.lastIndex s.data.toList [47] + 1).toNat, by omega⟩
 have hJs : J ≤ s.size := by omega
 have HC := Lib.hid (city_is s J hJ hJs)
 have L1 := Lib.hid (fun w => Go.Proofs.Tryz.strings_LastIndex s ⟨#[47]⟩ (by omega) w)
 have R1 : Hid (Calls Tryz.prog 85 #[.string (s.extract J s.size), .string ⟨#[95]⟩, .string ⟨#[32]⟩] w fun e w' => e = .returned (.string (cityT s)) ∧ Below w.heap.size w w') := Lib.hid (by
  have hsz : (s.extract J s.size).size ≤ 12 := by rw [ByteArray.size_extract]; omega
  have hcount : Lib.countB (s.extract J s.size) ⟨#[95]⟩ ≤ 13 := by
   refine Nat.le_trans (count_le _ _ _) ?_
   have : (s.extract J s.size).data.toList.length = (s.extract J s.size).size := by rw [Array.length_toList]; rfl
   omega
  have := Go.Proofs.Tryz.strings_ReplaceAll (s.extract J s.size) ⟨#[95]⟩ ⟨#[32]⟩ m w (by omega) hm (by decide) (by
   have h1 : (⟨#[32]⟩ : ByteArray).size = 1 := rfl
   rw [h1]; omega)
  rw [← HC.out]
  exact this)
 obtain ⟨j, hj⟩ : ∃ j, j = Lib.lastIndex s.data.toList (⟨#[47]⟩ : ByteArray).data.toList := ⟨_, rfl⟩
 rw [← hj] at L1
 have hw : IntKind.i64.wrap (j + 1) = (J : Int) := by
  have : j + 1 = (J : Int) := by rw [hj]; exact hJ
  rw [IntKind.wrap_i64]; omega
 obtain ⟨C, hC⟩ : ∃ C, C = cityT s := ⟨_, rfl⟩
 rw [← hC] at R1 ⊢
 clear hM hm hlen hbd hJ HC hj hC hs
 go_enter Tryz.func44, Tryz.ntmps44
 go_wp2_with fail
 refine (L1.out _).mono ?_
 rintro e w1 ⟨rfl, rfl⟩
 go_wp2_with fail
 refine R1.out.mono ?_
 rintro e w2 ⟨rfl, h2⟩
 go_wp2
 go_ret
 exact ⟨rfl, h2⟩
theorem cal_zone {x : Wd} {c g : Nat} {k t : Int} {i : Nat} {z : Zn} {w : World} (hW : WdAt w x) (hC : CalAt w c g x k t) (hz : x.d.zs[i]? = some z) :
 ∃ b o, x.d.zA = some ⟨b, o, none⟩ ∧ i < x.d.zn ∧ ∀ W, Below w.heap.size w W → ((W.cell? ⟨c, 0, none⟩ = some (.pointer (some ⟨g, 0, none⟩)) ∧ W.cell? ⟨c, 1, none⟩ = some (.int .i64 k) ∧ W.cell? ⟨c, 2, none⟩ = some (.int .i64 t)) ∧ (W.cell? ⟨g, 0, none⟩ = some (.slice x.d.sA x.d.sn x.d.sc) ∧ W.cell? ⟨g, 1, none⟩ = some (.slice (some ⟨b, o, none⟩) x.d.zn x.d.zc) ∧ W.cell? ⟨g, 2, none⟩ = some (.slice x.d.lA x.d.ln x.d.lc) ∧ W.cell? ⟨g, 3, none⟩ = some (.slice x.uA x.un x.uc) ∧ W.cell? ⟨g, 4, none⟩ = some (.slice x.bA x.bn x.bc))) ∧ W.cell? ⟨b, o + i * 2, none⟩ = some (.string z.name) := by
 have hi : i < x.d.zn := by rw [← hW.1.2.1.1]; exact (List.getElem?_eq_some_iff.1 hz).1
 obtain ⟨b, o, q, hA, hbB, hq, _, hq2⟩ := zones_get hW.1.2.1 hi
 rw [hz] at hq
 injection hq with hq
 subst hq
 refine ⟨b, o, hA, hi, fun W h => ?_⟩
 have h1 := hC.next h
 unfold CalAt WdCells at h1
 refine ⟨⟨h1.1, h1.2.1, by rw [← hA]; exact h1.2.2.1, h1.2.2.2⟩, (hq2 W h).1.1⟩
set_option maxRecDepth 100000 in
set_option maxHeartbeats 4000000 in
theorem callId_any (x : Wd) (c g b0 : Nat) (k t : Int) (i : Nat) (z : Zn) (w : World) (hW : WdAt w x) (hC : CalAt w c g x k t) (hB : w.cell? ⟨b0, 0, none⟩ = some (.pointer (some ⟨c, 0, none⟩))) (hz : x.d.zs[i]? = some z) :
 Calls Tryz.prog 150 #[.int .i64 i, .pointer (some ⟨b0, 0, none⟩)] w fun e w' => e = .returned (.string z.name) ∧ Below w.heap.size w w' := by
 obtain ⟨b, o, hA, hi, hc⟩ := cal_zone hW hC hz
 obtain ⟨⟨⟨c0, c1, c2⟩, d0, d1, d2, d3, d4⟩, e0⟩ := hc w (Below.refl _ _)
 have hi2 : (i : Int) < (x.d.zn : Int) := by omega
 clear hW hC hz hc hA
 go_enter Tryz.func150, Tryz.ntmps150
 go_wp2
 go_ret
 exact ⟨rfl, Below.refl _ _⟩
set_option maxRecDepth 100000 in
set_option maxHeartbeats 4000000 in
theorem callCity_any (x : Wd) (c g : Nat) (k t : Int) (i : Nat) (z : Zn) (w : World) (hW : WdAt w x) (hM : MaxAt w w.heap.size) (hC : CalAt w c g x k t) (hR : RightW x) (hk : -1 ≤ k) (hk2 : k < x.bn) (hz : x.d.zs[i]? = some z) :
 Calls Tryz.prog 152 #[.pointer (some ⟨c, 0, none⟩), .int .i64 i] w fun e w' => e = .returned (.string (byCity x k z)) ∧ Below w.heap.size w w' := by
 have hn12 := (nameOk_len (names_ok hR.data z (List.mem_of_getElem? hz))).2
 have hP := parOk_of hR.books
 obtain ⟨b, o, hA, hi, hc⟩ := cal_zone hW hC hz
 have HC := Lib.hid hc
 have hi2 : (i : Int) < (x.d.zn : Int) := by omega
 have K1 : Hid (∀ W, Below w.heap.size w W → Calls Tryz.prog 203 #[.slice x.bA x.bn x.bc, .int .i64 k, .string z.name] W fun e w' => e = .returned (.tuple #[.string (lookB x.bs z.name k).1, .bool (lookB x.bs z.name k).2]) ∧ Below w.heap.size w w') := Lib.hid fun W h =>
  (look_any x.bA x.bn x.bc x.bs k z.name W (hW.next h).2.2 hP hk hk2).mono fun _ _ q => ⟨q.1, h.trans (q.2.mono h.size)⟩
 have C1 := Lib.hid (fun W (h : Below w.heap.size w W) => city_any z.name W hn12 (hM.next h))
 have hy : byCity x k z = if (lookB x.bs z.name k).2 = true then (lookB x.bs z.name k).1 else cityT z.name := rfl
 have HY := Lib.hid hy
 obtain ⟨BC, hBC⟩ : ∃ v, v = byCity x k z := ⟨_, rfl⟩
 rw [← hBC] at HY ⊢
 obtain ⟨nm, hnm⟩ : ∃ v, v = z.name := ⟨_, rfl⟩
 obtain ⟨LS, hLS⟩ : ∃ v, v = (lookB x.bs z.name k).1 := ⟨_, rfl⟩
 obtain ⟨LB, hLB⟩ : ∃ v, v = (lookB x.bs z.name k).2 := ⟨_, rfl⟩
 obtain ⟨CT, hCT⟩ : ∃ v, v = cityT z.name := ⟨_, rfl⟩
 rw [← hLS, ← hLB] at K1 HY
 rw [← hCT] at C1 HY
 rw [← hnm] at K1 C1 HC
 obtain ⟨⟨⟨c0, c1, c2⟩, d0, d1, d2, d3, d4⟩, e0⟩ := HC.out w (Below.refl _ _)
 have hb0 : Below w.heap.size w w := Below.refl _ _
 have HB0D : Hid (Below w.heap.size w w.drew) := Lib.hid hb0.drew
 clear hW hM hC hz hc hA hR hn12 hP hy hBC hnm hLS hLB hCT hk hk2 hi
 go_enter Tryz.func152, Tryz.ntmps152
 go_upto_region 2 with fail
 go_cut [6, 7] from 20 to 35 (fun sa sb wx => sa = .string LS ∧ sb = .bool LB ∧ Hid (Below w.heap.size w wx))
 case first =>
  clear c0 c1 c2 d0 d1 d2 d3 d4 e0
  obtain ⟨⟨⟨c0, c1, c2⟩, d0, d1, d2, d3, d4⟩, e0⟩ := HC.out _ HB0D.out
  go_region_held3 (fun w' => Below w.heap.size w w' ∧ w'.cell? ⟨c, 0, none⟩ = some (.pointer (some ⟨g, 0, none⟩)) ∧ w'.cell? ⟨c, 1, none⟩ = some (.int .i64 k) ∧ w'.cell? ⟨g, 4, none⟩ = some (.slice x.bA x.bn x.bc))
   (refine ⟨?_, ?_, ?_, ?_⟩ <;> (first | assumption | exact HB0D.out | exact Below.drew (by assumption) | go_keep))
   (first
    | (go_at_call 203; refine (K1.out _ (by first | assumption | exact HB0D.out)).mono ?_; rintro e w5 ⟨rfl, hb5⟩; clear c0 c1 c2 d0 d1 d2 d3 d4 e0; obtain ⟨⟨⟨c0, c1, c2⟩, d0, d1, d2, d3, d4⟩, e0⟩ := HC.out _ hb5))
  all_goals
   go_wp2_with fail
   go_meet
   exact ⟨rfl, rfl, Lib.hid (by assumption)⟩
 case rest =>
  obtain ⟨rfl, rfl, hbA⟩ := hcut
  obtain ⟨vA, hvA⟩ : ∃ v : World, v = wc := ⟨_, rfl⟩
  rw [← hvA] at hbA
  rw [← hvA]
  clear hvA c0 c1 c2 d0 d1 d2 d3 d4 e0 hb0 HB0D
  cases LB
  ·replace HY := Lib.hid (HY.out.trans (if_neg (by decide)))
   go_wp2_with fail
   refine (C1.out _ hbA.out).mono ?_
   rintro e w5 ⟨rfl, hb5⟩
   have HF := Lib.hid (hbA.out.trans (hb5.mono hbA.out.size))
   clear hb5
   go_wp2
   go_ret
   exact ⟨retO_str HY.out.symm, HF.out⟩
  ·replace HY := Lib.hid (HY.out.trans (if_pos rfl))
   go_wp2
   go_ret
   exact ⟨retO_str HY.out.symm, hbA.out⟩
end Go.Proofs.YtbbbeldbhlehnaaGreatDoor
end
section
namespace Gno
open Go Go.RowKit
def bytesTo (l : List UInt8) (i : Nat) : List UInt8 := (l.take i).map usB ++ l.drop i
theorem bytesTo_zero (l : List UInt8) : bytesTo l 0 = l := by simp [bytesTo]
theorem bytesTo_end {l : List UInt8} {i : Nat} (h : l.length ≤ i) : bytesTo l i = l.map usB := by
 unfold bytesTo
 rw [List.take_of_length_le h, List.drop_of_length_le h, List.append_nil]
theorem bytesTo_at {l : List UInt8} {i : Nat} {b : UInt8} (h : l[i]? = some b) : (bytesTo l i)[i]? = some b := by
 have hi := (List.getElem?_eq_some_iff.1 h).1
 unfold bytesTo
 rw [List.getElem?_append_right (by simp; omega), List.getElem?_drop]
 have : i + (i - ((l.take i).map usB).length) = i := by simp; omega
 rw [this]; exact h
theorem bytesTo_step {l : List UInt8} {i : Nat} {b : UInt8} (h : l[i]? = some b) : bytesTo l (i + 1) = (bytesTo l i).set i (usB b) := by
 have hi := (List.getElem?_eq_some_iff.1 h).1
 unfold bytesTo
 rw [take_snoc' h, List.map_append, List.set_append_right _ _ (by simp; omega)]
 have e1 : i - ((l.take i).map usB).length = 0 := by simp; omega
 rw [e1, List.drop_eq_getElem_cons hi, List.set_cons_zero, List.append_assoc]
 rfl
theorem bytesTo_same {l : List UInt8} {i : Nat} {b : UInt8} (h : l[i]? = some b) (hb : usB b = b) : bytesTo l (i + 1) = bytesTo l i := by
 rw [bytesTo_step h, hb]
 obtain ⟨hi, he⟩ := List.getElem?_eq_some_iff.1 (bytesTo_at h)
 conv => lhs; rw [← he]
 exact List.set_getElem_self hi
theorem city_at {l : List UInt8} {i : Nat} (h : l[i]? = some 47) : cityL l = cityL (l.drop (i + 1)) := by
 obtain ⟨hi, he⟩ := List.getElem?_eq_some_iff.1 h
 have e : l = l.take i ++ 47 :: l.drop (i + 1) := by
  have := List.take_append_drop i l
  rw [List.drop_eq_getElem_cons hi, he] at this
  exact this.symm
 unfold cityL
 conv => lhs; rw [e]
 exact cityF_slash _ _ _
def noSl (l : List UInt8) (i : Nat) : Prop := ∀ b ∈ l.take i, b ≠ 47
theorem noSl_step {l : List UInt8} {i : Nat} {b : UInt8} (h : l[i]? = some b) (h0 : noSl l i) (hb : b ≠ 47) : noSl l (i + 1) := by
 intro c hc
 rw [take_snoc' h, List.mem_append, List.mem_singleton] at hc
 rcases hc with hc | rfl
 ·exact h0 c hc
 ·exact hb
theorem city_end {l : List UInt8} {i : Nat} (h : l.length ≤ i) (h0 : noSl l i) : cityL l = bytesTo l i := by
 unfold noSl at h0
 rw [List.take_of_length_le h] at h0
 rw [bytesTo_end h]
 unfold cityL
 rw [cityF_no l [] h0]; rfl
structure BytesIn (W : World) (g n : Nat) (l : List UInt8) : Prop where
 len : l.length = n
 cells : ∀ j b, l[j]? = some b → W.cell? ⟨g, j, none⟩ = some (.int .u8 (b.toNat : Int))
 free : ∀ j, j < n → W.frozen? ⟨g, j, none⟩ = false
theorem BytesIn.set {W : World} {g n : Nat} {l : List UInt8} (h : BytesIn W g n l) {i : Nat} (hi : i < n) (b : UInt8) : BytesIn (W.setCell ⟨g, i, none⟩ (.int .u8 (b.toNat : Int))) g n (l.set i b) where
 len := by rw [List.length_set]; exact h.len
 cells := fun j c hj => by
  obtain ⟨x, hx⟩ : ∃ x, l[i]? = some x := ⟨_, List.getElem?_eq_getElem (by rw [h.len]; exact hi)⟩
  by_cases e : i = j
  ·subst e
   rw [List.getElem?_set_self (by rw [h.len]; exact hi)] at hj
   injection hj with hj
   subst hj
   exact World.cell?_setCell_same (h := h.cells i x hx) ..
  ·rw [List.getElem?_set_ne e] at hj
   rw [World.cell?_setCell_other (h := by intro q; injection q with _ q _; exact e q) ..]
   exact h.cells j c hj
 free := fun j hj => by rw [World.frozen?_setCell]; exact h.free j hj
end Gno
namespace Go.Proofs.YtbbbeldbhlehnaaGreatDoor
open Go.RowKit Gno
theorem bytes_made (s : ByteArray) (w : World) : ∃ cap W1, (convert 9 88 (.string s)).run Tryz.prog w = .ok (.slice (some ⟨w.heap.size, 0, none⟩) s.size cap) W1 ∧ Below w.heap.size w W1 ∧ BytesIn W1 w.heap.size s.size s.data.toList := by
 refine ⟨_, _, run_bytes_of_string w 9 88 5 s Tryz.underlying9 Tryz.underlying88 Tryz.underlying5, ?_, ?_⟩
 ·exact (Below.refl _ _).drew.alloc (Nat.le_refl _) _
 ·obtain ⟨cap, hcap⟩ : ∃ cap, cap = grownCap w s.size 0 5 := ⟨_, rfl⟩
  rw [← hcap]
  have hk : (w.drew.alloc (.cells (bytesRow s cap) 5 ((bytesRow s cap).size, (bytesRow s cap).size + 1))).heap[w.heap.size]? = some (.cells (bytesRow s cap) 5 ((bytesRow s cap).size, (bytesRow s cap).size + 1)) := World.alloc_heap_new w.drew _
  have hsz : s.size ≤ (bytesRow s cap).size := by unfold bytesRow; rw [Array.size_append, Array.size_map]; exact Nat.le_add_right _ _
  refine ⟨by rw [Array.length_toList]; rfl, fun j b hj => ?_, fun j hj => ?_⟩
  ·obtain ⟨hjl, hjb⟩ := List.getElem?_eq_some_iff.1 hj
   have hjs : j < s.data.size := by simpa using hjl
   have := bytesRow_at s cap j hjs
   have e : s.data[j] = b := by rw [← hjb]; simp
   rw [e] at this
   simp only [World.cell?, hk]
   exact this
  ·simp only [World.frozen?, hk]
   simp
   intro h; omega
theorem bytes_back {W : World} {g n cap : Nat} {l : List UInt8} (h : BytesIn W g n l) : (convert 88 9 (.slice (some ⟨g, 0, none⟩) n cap)).run Tryz.prog W = .ok (.string ⟨l.toArray⟩) W := by
 have := run_convert_bytes_back W 88 9 5 ⟨g, 0, none⟩ cap l Tryz.underlying88 Tryz.underlying5 Tryz.underlying9 (fun j hj => by
  rw [addP, Nat.zero_add]
  exact h.cells j _ (List.getElem?_eq_getElem hj))
 rwa [h.len] at this
set_option maxRecDepth 100000 in
set_option maxHeartbeats 4000000 in
theorem cityR_step (s : ByteArray) (w : World) (hs : s.size ≤ 1000) (IH : ∀ (s' : ByteArray) (W : World), s'.size < s.size → Calls Tryz.prog 15 #[.string s'] W fun e w' => e = .returned (.string (cityT s')) ∧ Below W.heap.size W w') :
 Calls Tryz.prog 15 #[.string s] w fun e w' => e = .returned (.string (cityT s)) ∧ Below w.heap.size w w' := by
 obtain ⟨cap, W1, hcv, hb1, hbi⟩ := bytes_made s w
 have HB1 := Lib.hid hb1
 have HBI := Lib.hid hbi
 have hlen : s.data.toList.length = s.size := by rw [Array.length_toList]; rfl
 have HLE := Lib.hid hlen
 have HBK := Lib.hid (fun (W : World) (l : List UInt8) (h : BytesIn W w.heap.size s.size l) => bytes_back (cap := cap) h)
 have IH1 : Hid (∀ (i : Nat) (W : World), s.data.toList[i]? = some 47 → Calls Tryz.prog 15 #[.string (s.extract (i + 1) s.size)] W fun e w' => e = .returned (.string (cityT s)) ∧ Below W.heap.size W w') := Lib.hid fun i W hi => by
  have hil := (List.getElem?_eq_some_iff.1 hi).1
  have h1 := IH (s.extract (i + 1) s.size) W (by rw [ByteArray.size_extract]; omega)
  have e : cityT (s.extract (i + 1) s.size) = cityT s := by
   unfold cityT
   rw [ex_list, List.take_of_length_le (by rw [List.length_drop]; omega), ← city_at hi]
  rwa [e] at h1
 have HEND : Hid (∀ i, s.size ≤ i → noSl s.data.toList i → cityT s = ⟨(bytesTo s.data.toList i).toArray⟩) := Lib.hid fun i h h0 => by
  unfold cityT
  rw [city_end (by omega) h0]
 obtain ⟨C, hC⟩ : ∃ C, C = cityT s := ⟨_, rfl⟩
 rw [← hC] at IH1 HEND ⊢
 obtain ⟨l, hl⟩ : ∃ l, l = s.data.toList := ⟨_, rfl⟩
 rw [← hl] at HBI IH1 HEND HLE
 obtain ⟨g, hg⟩ : ∃ g, g = w.heap.size := ⟨_, rfl⟩
 rw [← hg] at hcv HBI HBK
 have HG := Lib.hid hg
 clear IH hlen hb1 hbi hC hl hg
 go_enter Tryz.func15, Tryz.ntmps15
 go_wp2_with fail
 go_loopw [4] (fun b4 wr => ∃ i : Nat, i ≤ s.size ∧ b4 = .int .i64 i ∧ Hid (noSl l i) ∧ Hid (BytesIn wr g s.size (bytesTo l i)) ∧ Hid (Below w.heap.size w wr)) (fun b4 _ => s.size - (intOf b4).toNat)
 case atStart => exact ⟨0, Nat.zero_le _, rfl, Lib.hid (fun b hb => by simp at hb), Lib.hid (by rw [bytesTo_zero]; exact HBI.out), HB1⟩
 case round =>
  clear HBI HB1 hcv
  obtain ⟨i, hi, rfl, hns, hbi, hb⟩ := hrel
  by_cases hlt : i < s.size
  ·obtain ⟨b, hbl⟩ : ∃ b, l[i]? = some b := ⟨_, List.getElem?_eq_getElem (by rw [HLE.out]; exact hlt)⟩
   have HBL := Lib.hid hbl
   have k0 := hbi.out.cells i b (bytesTo_at hbl)
   have f0 := hbi.out.free i hlt
   have hiI : (i : Int) < (s.size : Int) := by omega
   by_cases h47 : b = 47
   ·subst h47
    have C1 := Lib.hid (IH1.out i wr hbl)
    have k1 : wr.cell? ⟨g, i, none⟩ = some (.int .u8 47) := k0
    clear k0 hbl
    go_wp2_with fail
    refine C1.out.mono ?_
    rintro e w5 ⟨rfl, h5⟩
    have HF := Lib.hid (hb.out.trans (h5.mono hb.out.size))
    clear h5
    go_wp2
    go_ret
    exact ⟨rfl, HF.out⟩
   ·have g1 : (((b.toNat : Nat) : Int) == 47) = false := beq_eq_false_iff_ne.2 fun h => h47 (UInt8.toNat_inj.1 (by show b.toNat = 47; omega))
    have HNS := Lib.hid (noSl_step HBL.out hns.out h47)
    by_cases h95 : b = 95
    ·have HS : Hid (BytesIn (wr.setCell ⟨g, i, none⟩ (.int .u8 32)) g s.size (bytesTo l (i + 1))) := Lib.hid (by
      rw [bytesTo_step HBL.out, show usB b = 32 by unfold usB; rw [if_pos h95]]
      exact hbi.out.set hlt 32)
     have HB2 : Hid (Below w.heap.size w (wr.setCell ⟨g, i, none⟩ (.int .u8 32))) := Lib.hid (hb.out.setCell (p := ⟨g, i, none⟩) (by rw [HG.out]; exact Nat.le_refl _) _)
     subst h95
     have k1 : wr.cell? ⟨g, i, none⟩ = some (.int .u8 95) := k0
     clear k0 hbl h47 g1
     go_wp2_with fail
     go_roundw
     case rel => exact ⟨i + 1, by omega, by go_num, HNS, HS, HB2⟩
     case measure => simp [intOf]; omega
    ·have g2 : (((b.toNat : Nat) : Int) == 95) = false := beq_eq_false_iff_ne.2 fun h => h95 (UInt8.toNat_inj.1 (by show b.toNat = 95; omega))
     have HS : Hid (BytesIn wr g s.size (bytesTo l (i + 1))) := Lib.hid (by
      rw [bytesTo_same HBL.out (by unfold usB; rw [if_neg h95])]
      exact hbi.out)
     clear hbl h47 h95
     go_wp2_with fail
     go_roundw
     case rel => exact ⟨i + 1, by omega, by go_num, HNS, HS, hb⟩
     case measure => simp [intOf]; omega
  ·have hcv2 := HBK.out wr _ hbi.out
   have HE := Lib.hid (HEND.out i (by omega) hns.out)
   obtain ⟨D, hD⟩ : ∃ D : ByteArray, D = ⟨(bytesTo l i).toArray⟩ := ⟨_, rfl⟩
   rw [← hD] at hcv2 HE
   clear hD
   go_wp2
   go_ret
   exact ⟨retO_str HE.out.symm, hb.out⟩
theorem cityR_any : ∀ (m : Nat) (s : ByteArray) (w : World), s.size ≤ m → m ≤ 1000 → Calls Tryz.prog 15 #[.string s] w fun e w' => e = .returned (.string (cityT s)) ∧ Below w.heap.size w w'
 | 0, s, w, h, hm => cityR_step s w (by omega) fun s' W h' => absurd h' (by omega)
 | m + 1, s, w, h, hm => cityR_step s w (by omega) fun s' W h' => cityR_any m s' W (by omega) (by omega)
end Go.Proofs.YtbbbeldbhlehnaaGreatDoor
end
section
namespace Gno
open Go Go.RowKit
theorem metaU_size {d : Dt} {l : List Us} (h : RightU d l) (zone : ByteArray) (t : Int) : (metaU l zone t).size ≤ 12 := by
 unfold metaU
 cases hu : l[(metaN l zone t).toNat]? with
 | none => show (⟨#[]⟩ : ByteArray).size ≤ 12; decide
 | some u =>
   simp only
   split
   ·show (⟨#[]⟩ : ByteArray).size ≤ 12; decide
   ·have := h.mts u (List.mem_of_getElem? hu)
    unfold badMt badNm at this
    exact (nameOk_len (by simpa using this)).2
theorem empty_of {s : ByteArray} (h : s.size = 0) : s = ⟨#[]⟩ := by
 obtain ⟨⟨l⟩⟩ := s
 have : l = [] := List.eq_nil_of_length_eq_zero h
 rw [this]
theorem some_list {s : ByteArray} (h : s.size ≠ 0) : s.toList.isEmpty = false := by
 cases q : s.toList.isEmpty
 ·rfl
 ·exfalso
  rw [List.isEmpty_iff, ByteArray.toList_eq] at q
  have : s.data.toList.length = 0 := by rw [q]; rfl
  rw [Array.length_toList] at this
  exact h this
theorem byName_no {x : Wd} {k : Int} {z : Zn} {t : Int} (h : (metaU x.us z.name t).size = 0) : byName x k z t = offS x.d z t := by unfold byName; rw [if_pos h]
theorem byName_yes {x : Wd} {k : Int} {z : Zn} {t : Int} {key : ByteArray} (h : (metaU x.us z.name t).size ≠ 0) (hk : useKey (metaU x.us z.name t) (offSv x.d (eraOf z t) t) = key) : byName x k z t = if (lookB x.bs key k).2 = true then (lookB x.bs key k).1 else offS x.d z t := by unfold byName; rw [if_neg h, hk]
end Gno
namespace Go.Proofs.YtbbbeldbhlehnaaGreatDoor
open Go.RowKit Gno
set_option maxRecDepth 100000 in
set_option maxHeartbeats 8000000 in
theorem callName_any (x : Wd) (c g : Nat) (k t : Int) (i : Nat) (z : Zn) (w : World) (hW : WdAt w x) (hM : MaxAt w w.heap.size) (hC : CalAt w c g x k t) (hR : RightW x) (hk : -1 ≤ k) (hk2 : k < x.bn) (hz : x.d.zs[i]? = some z) (ht : t < 1893456000) :
 Calls Tryz.prog 151 #[.pointer (some ⟨c, 0, none⟩), .int .i64 i] w fun e w' => e = .returned (.string (byName x k z t)) ∧ Below w.heap.size w w' := by
 have hP := parOk_of hR.books
 have hr := rightE_of hR.data
 have hms := metaU_size (rightU_of hR.uses) z.name t
 obtain ⟨b, o, hA, hi, hc⟩ := cal_zone hW hC hz
 have HC := Lib.hid hc
 have hi2 : (i : Int) < (x.d.zn : Int) := by omega
 have O1 : Hid (∀ W, Below w.heap.size w W → Calls Tryz.prog 52 #[.agg #[.slice x.d.sA x.d.sn x.d.sc, .slice (some ⟨b, o, none⟩) x.d.zn x.d.zc, .slice x.d.lA x.d.ln x.d.lc], .int .i64 i, .int .i64 t] W fun e w' => e = .returned (.agg #[.int .i64 (offTo x.d (eraOf z t) t), .int .i64 (offSv x.d (eraOf z t) t), .string (offAb x.d (eraOf z t) t)]) ∧ Below w.heap.size w w') := Lib.hid fun W h => by
  have h1 := of_any x.d i t z W (hW.next h).1 (hM.next h) hr (by simpa using hz) (by omega) ht
  unfold Dt.val at h1
  rw [hA] at h1
  exact h1.mono fun _ _ q => ⟨q.1, h.trans (q.2.mono h.size)⟩
 have U1 : Hid (∀ W, Below w.heap.size w W → Calls Tryz.prog 202 #[.slice x.uA x.un x.uc, .string z.name, .int .i64 t] W fun e w' => e = .returned (.string (metaU x.us z.name t)) ∧ Below w.heap.size w w') := Lib.hid fun W h =>
  (usesOf_any x.uA x.un x.uc x.us z.name t W (hW.next h).2.1).mono fun _ _ q => ⟨q.1, h.trans (q.2.mono h.size)⟩
 have K1 : Hid (∀ key W, Below w.heap.size w W → Calls Tryz.prog 203 #[.slice x.bA x.bn x.bc, .int .i64 k, .string key] W fun e w' => e = .returned (.tuple #[.string (lookB x.bs key k).1, .bool (lookB x.bs key k).2]) ∧ Below w.heap.size w w') := Lib.hid fun key W h =>
  (look_any x.bA x.bn x.bc x.bs k key W (hW.next h).2.2 hP hk hk2).mono fun _ _ q => ⟨q.1, h.trans (q.2.mono h.size)⟩
 have F1 : Hid (∀ W, Below w.heap.size w W → Calls Tryz.prog 149 #[.pointer (some ⟨c, 0, none⟩), .int .i64 i] W fun e w' => e = .returned (.string (offS x.d z t)) ∧ Below w.heap.size w w') := Lib.hid fun W h =>
  (callOff_any x c g k t i z W (hW.next h) (hM.next h) (hC.next h) hr hz ht).mono fun _ _ q => ⟨q.1, h.trans (q.2.mono h.size)⟩
 have hb0 : Below w.heap.size w w := Below.refl _ _
 have HB0 : Hid (Below w.heap.size w w) := Lib.hid hb0
 have HB0D : Hid (Below w.heap.size w w.drew) := Lib.hid hb0.drew
 have HBN := Lib.hid (fun key (h : (metaU x.us z.name t).size ≠ 0) hk => byName_yes (x := x) (k := k) (z := z) (t := t) (key := key) h hk)
 have HB0N := Lib.hid (fun h => byName_no (x := x) (k := k) (z := z) (t := t) h)
 obtain ⟨BN, hBN⟩ : ∃ v, v = byName x k z t := ⟨_, rfl⟩
 obtain ⟨M, hM'⟩ : ∃ v, v = metaU x.us z.name t := ⟨_, rfl⟩
 obtain ⟨nm, hnm⟩ : ∃ v, v = z.name := ⟨_, rfl⟩
 obtain ⟨OS, hOS⟩ : ∃ v, v = offS x.d z t := ⟨_, rfl⟩
 obtain ⟨TT, hTT⟩ : ∃ v, v = offTo x.d (eraOf z t) t := ⟨_, rfl⟩
 obtain ⟨SV, hSV⟩ : ∃ v, v = offSv x.d (eraOf z t) t := ⟨_, rfl⟩
 obtain ⟨AB, hAB⟩ : ∃ v, v = offAb x.d (eraOf z t) t := ⟨_, rfl⟩
 rw [← hM'] at U1 hms HBN HB0N
 rw [← hnm] at U1 HC
 rw [← hOS] at F1 HBN HB0N
 rw [← hSV] at HBN
 rw [← hTT, ← hSV, ← hAB] at O1
 rw [← hBN] at HBN HB0N ⊢
 clear hW hM hC hz hc hA hR hP hr hk hk2 hi ht hBN hM' hnm hOS hTT hSV hAB
 go_enter Tryz.func151, Tryz.ntmps151
 go_upto_region 1 with fail
 go_cut [5] from 8 to 31 (fun sa wx => sa = .string M ∧ Hid (Below w.heap.size w wx))
 case first =>
  obtain ⟨⟨⟨c0, c1, c2⟩, d0, d1, d2, d3, d4⟩, e0⟩ := HC.out _ HB0D.out
  go_region_held3 (fun w' => Below w.heap.size w w' ∧ w'.cell? ⟨c, 0, none⟩ = some (.pointer (some ⟨g, 0, none⟩)) ∧ w'.cell? ⟨c, 2, none⟩ = some (.int .i64 t) ∧ w'.cell? ⟨g, 1, none⟩ = some (.slice (some ⟨b, o, none⟩) x.d.zn x.d.zc) ∧ w'.cell? ⟨g, 3, none⟩ = some (.slice x.uA x.un x.uc) ∧ w'.cell? ⟨b, o + i * 2, none⟩ = some (.string nm))
   (refine ⟨?_, ?_, ?_, ?_, ?_, ?_⟩ <;> (first | assumption | exact HB0D.out | exact Below.drew (by assumption) | go_keep))
   (first
    | (go_at_call 202; refine (U1.out _ (by first | assumption | exact HB0D.out)).mono ?_; rintro e w5 ⟨rfl, hb5⟩; clear c0 c1 c2 d0 d1 d2 d3 d4 e0; obtain ⟨⟨⟨c0, c1, c2⟩, d0, d1, d2, d3, d4⟩, e0⟩ := HC.out _ hb5))
  all_goals
   go_wp2_with fail
   go_meet
   exact ⟨rfl, Lib.hid (by assumption)⟩
 case rest =>
  obtain ⟨rfl, hbA⟩ := hcut
  obtain ⟨vA, hvA⟩ : ∃ v : World, v = wc := ⟨_, rfl⟩
  rw [← hvA] at hbA
  rw [← hvA]
  clear hvA hb0 HB0D HB0
  by_cases hm0 : M.size = 0
  ·have HY := Lib.hid (HB0N.out hm0)
   have hme := empty_of hm0
   subst hme
   clear hm0 hms
   go_wp2_with fail
   refine (F1.out _ hbA.out).mono ?_
   rintro e w5 ⟨rfl, hb5⟩
   have HF := Lib.hid hb5
   clear hb5
   go_wp2
   go_ret
   exact ⟨retO_str HY.out.symm, HF.out⟩
  ·have g0 : M.toList.isEmpty = false := some_list hm0
   have HBD : Hid (Below w.heap.size w vA.drew) := Lib.hid hbA.out.drew
   have hfl : ∀ w, (Instr.field 46 (.agg #[.int .i64 TT, .int .i64 SV, .string AB]) 1).run Tryz.prog w = .ok (.int .i64 SV) w := fun w => off_field1 TT SV AB w
   go_upto_region 4 with fail
   go_cut [51] from 37 to 50 (fun sa wx => sa = .bool (SV == 0) ∧ Hid (Below w.heap.size w wx))
   case first =>
    obtain ⟨⟨⟨c0, c1, c2⟩, d0, d1, d2, d3, d4⟩, e0⟩ := HC.out _ HBD.out
    go_region_held3 (fun w' => Below w.heap.size w w' ∧ w'.cell? ⟨c, 0, none⟩ = some (.pointer (some ⟨g, 0, none⟩)) ∧ w'.cell? ⟨c, 2, none⟩ = some (.int .i64 t) ∧ w'.cell? ⟨g, 0, none⟩ = some (.slice x.d.sA x.d.sn x.d.sc) ∧ w'.cell? ⟨g, 1, none⟩ = some (.slice (some ⟨b, o, none⟩) x.d.zn x.d.zc) ∧ w'.cell? ⟨g, 2, none⟩ = some (.slice x.d.lA x.d.ln x.d.lc))
     (refine ⟨?_, ?_, ?_, ?_, ?_, ?_⟩ <;> (first | assumption | exact HBD.out | exact Below.drew (by assumption) | go_keep))
     (first
      | (go_at_call 52; refine (O1.out _ (by first | assumption | exact HBD.out)).mono ?_; rintro e w5 ⟨rfl, hb5⟩; clear c0 c1 c2 d0 d1 d2 d3 d4 e0; obtain ⟨⟨⟨c0, c1, c2⟩, d0, d1, d2, d3, d4⟩, e0⟩ := HC.out _ hb5))
    all_goals
     go_wp2_with fail
     go_meet
     exact ⟨rfl, Lib.hid (by assumption)⟩
   case rest =>
    obtain ⟨rfl, hbB⟩ := hcut
    obtain ⟨vB, hvB⟩ : ∃ v : World, v = wc := ⟨_, rfl⟩
    rw [← hvB] at hbB
    rw [← hvB]
    clear hvB hbA HBD
    have hs1 : M.size + (⟨#[47, 115]⟩ : ByteArray).size ≤ 9223372036854775807 := by show M.size + 2 ≤ _; omega
    have hs2 : M.size + (⟨#[47, 100]⟩ : ByteArray).size ≤ 9223372036854775807 := by show M.size + 2 ≤ _; omega
    have HBE : Hid (Below w.heap.size w vB.drew) := Lib.hid hbB.out.drew
    have HBF := hbB
    obtain ⟨KEY, hKEY⟩ : ∃ v, v = useKey M SV := ⟨_, rfl⟩
    have HY := Lib.hid (HBN.out KEY hm0 hKEY.symm)
    cases hsv : (SV == 0)
    ·have hk1 : KEY = M ++ ⟨#[47, 100]⟩ := by rw [hKEY]; unfold useKey; rw [if_neg (by simpa using hsv)]; rfl
     obtain ⟨LS, hLS⟩ : ∃ v, v = (lookB x.bs KEY k).1 := ⟨_, rfl⟩
     obtain ⟨LB, hLB⟩ : ∃ v, v = (lookB x.bs KEY k).2 := ⟨_, rfl⟩
     have K2 := Lib.hid (K1.out KEY)
     rw [← hLS, ← hLB] at K2 HY
     rw [hk1] at K2
     clear hKEY hsv hLS hLB hm0 hk1 K1
     go_upto_region 7 with fail
     go_cut [6, 7] from 56 to 71 (fun sa sb wx => sa = .string LS ∧ sb = .bool LB ∧ Hid (Below w.heap.size w wx))
     case first =>
      obtain ⟨⟨⟨c0, c1, c2⟩, d0, d1, d2, d3, d4⟩, e0⟩ := HC.out _ HBE.out
      go_region_held3 (fun w' => Below w.heap.size w w' ∧ w'.cell? ⟨c, 0, none⟩ = some (.pointer (some ⟨g, 0, none⟩)) ∧ w'.cell? ⟨c, 1, none⟩ = some (.int .i64 k) ∧ w'.cell? ⟨g, 4, none⟩ = some (.slice x.bA x.bn x.bc))
       (refine ⟨?_, ?_, ?_, ?_⟩ <;> (first | assumption | exact HBE.out | exact Below.drew (by assumption) | go_keep))
       (first
        | (go_at_call 203; refine (K2.out _ (by first | assumption | exact HBE.out)).mono ?_; rintro e w5 ⟨rfl, hb5⟩; clear c0 c1 c2 d0 d1 d2 d3 d4 e0; obtain ⟨⟨⟨c0, c1, c2⟩, d0, d1, d2, d3, d4⟩, e0⟩ := HC.out _ hb5))
      all_goals
       go_wp2_with fail
       go_meet
       exact ⟨rfl, rfl, Lib.hid (by assumption)⟩
     case rest =>
      obtain ⟨rfl, rfl, hbC⟩ := hcut
      obtain ⟨vC, hvC⟩ : ∃ v : World, v = wc := ⟨_, rfl⟩
      rw [← hvC] at hbC
      rw [← hvC]
      clear hvC hbB HBE HBF
      cases LB
      ·replace HY := Lib.hid (HY.out.trans (if_neg (by decide)))
       go_wp2_with fail
       refine (F1.out _ hbC.out).mono ?_
       rintro e w5 ⟨rfl, hb5⟩
       have HF := Lib.hid hb5
       clear hb5
       go_wp2
       go_ret
       exact ⟨retO_str HY.out.symm, HF.out⟩
      ·replace HY := Lib.hid (HY.out.trans (if_pos rfl))
       go_wp2
       go_ret
       exact ⟨retO_str HY.out.symm, hbC.out⟩
    ·have hk1 : KEY = M ++ ⟨#[47, 115]⟩ := by rw [hKEY]; unfold useKey; rw [if_pos (by simpa using hsv)]; rfl
     obtain ⟨LS, hLS⟩ : ∃ v, v = (lookB x.bs KEY k).1 := ⟨_, rfl⟩
     obtain ⟨LB, hLB⟩ : ∃ v, v = (lookB x.bs KEY k).2 := ⟨_, rfl⟩
     have K2 := Lib.hid (K1.out KEY)
     rw [← hLS, ← hLB] at K2 HY
     rw [hk1] at K2
     clear hKEY hsv hLS hLB hm0 hk1 K1
     go_upto_region 7 with fail
     go_cut [6, 7] from 56 to 71 (fun sa sb wx => sa = .string LS ∧ sb = .bool LB ∧ Hid (Below w.heap.size w wx))
     case first =>
      obtain ⟨⟨⟨c0, c1, c2⟩, d0, d1, d2, d3, d4⟩, e0⟩ := HC.out _ HBE.out
      go_region_held3 (fun w' => Below w.heap.size w w' ∧ w'.cell? ⟨c, 0, none⟩ = some (.pointer (some ⟨g, 0, none⟩)) ∧ w'.cell? ⟨c, 1, none⟩ = some (.int .i64 k) ∧ w'.cell? ⟨g, 4, none⟩ = some (.slice x.bA x.bn x.bc))
       (refine ⟨?_, ?_, ?_, ?_⟩ <;> (first | assumption | exact HBE.out | exact Below.drew (by assumption) | go_keep))
       (first
        | (go_at_call 203; refine (K2.out _ (by first | assumption | exact HBE.out)).mono ?_; rintro e w5 ⟨rfl, hb5⟩; clear c0 c1 c2 d0 d1 d2 d3 d4 e0; obtain ⟨⟨⟨c0, c1, c2⟩, d0, d1, d2, d3, d4⟩, e0⟩ := HC.out _ hb5))
      all_goals
       go_wp2_with fail
       go_meet
       exact ⟨rfl, rfl, Lib.hid (by assumption)⟩
     case rest =>
      obtain ⟨rfl, rfl, hbC⟩ := hcut
      obtain ⟨vC, hvC⟩ : ∃ v : World, v = wc := ⟨_, rfl⟩
      rw [← hvC] at hbC
      rw [← hvC]
      clear hvC hbB HBE HBF
      cases LB
      ·replace HY := Lib.hid (HY.out.trans (if_neg (by decide)))
       go_wp2_with fail
       refine (F1.out _ hbC.out).mono ?_
       rintro e w5 ⟨rfl, hb5⟩
       have HF := Lib.hid hb5
       clear hb5
       go_wp2
       go_ret
       exact ⟨retO_str HY.out.symm, HF.out⟩
      ·replace HY := Lib.hid (HY.out.trans (if_pos rfl))
       go_wp2
       go_ret
       exact ⟨retO_str HY.out.symm, hbC.out⟩
end Go.Proofs.YtbbbeldbhlehnaaGreatDoor
end
section
namespace Gno
open Go Go.RowKit Go.Maps
noncomputable def tellE (x : Wd) (loc : ByteArray) (t p ze : Int) : Int := if preE x loc p ≠ 0 then preE x loc p else if ze ≠ 0 then ze else if t < 0 ∨ 1893456000 ≤ t then 3 else 0
theorem tell_words (x : Wd) (loc : ByteArray) (t p : Int) : tellE x loc t p 0 = wdsE x loc t p := by
 unfold tellE wdsE
 split
 ·rfl
 ·rfl
theorem tellE_world {x : Wd} {loc : ByteArray} {t p ze : Int} (h : worldE x ≠ 0) : tellE x loc t p ze = worldE x := by
 unfold tellE preE; rw [if_pos h, if_pos h]
theorem tellE_kind {x : Wd} {loc : ByteArray} {t p ze : Int} (h : worldE x = 0) (h1 : ¬ (1 ≤ p ∧ p ≤ 4)) : tellE x loc t p ze = 8 := by
 have e : preE x loc p = 8 := by unfold preE; rw [if_neg (by simp [h]), if_pos (by omega)]
 unfold tellE; rw [e]; rfl
theorem tellE_book {x : Wd} {loc : ByteArray} {t p ze : Int} (h : worldE x = 0) (h1 : 1 ≤ p ∧ p ≤ 4) (h2 : bookN x.bs loc < 0) : tellE x loc t p ze = 4 := by
 have e : preE x loc p = 4 := by unfold preE; rw [if_neg (by simp [h]), if_neg (by omega), if_pos h2]
 unfold tellE; rw [e]; rfl
theorem preE_is {x : Wd} {loc : ByteArray} {p : Int} (h : worldE x = 0) (h1 : 1 ≤ p ∧ p ≤ 4) (h2 : ¬ bookN x.bs loc < 0) : preE x loc p = 0 := by
 unfold preE; rw [if_neg (by simp [h]), if_neg (by omega), if_neg h2]
theorem tellE_zone {x : Wd} {loc : ByteArray} {t p ze : Int} (h : preE x loc p = 0) (h3 : ze ≠ 0) : tellE x loc t p ze = ze := by
 unfold tellE; rw [if_neg (by simp [h]), if_pos h3]
theorem tellE_time {x : Wd} {loc : ByteArray} {t p : Int} (h : preE x loc p = 0) : tellE x loc t p 0 = if t < 0 ∨ 1893456000 ≤ t then 3 else 0 := by
 unfold tellE; rw [if_neg (by simp [h]), if_neg (by simp)]
def tellF (p : Int) : Nat := if p = 1 then 149 else if p = 2 then 150 else if p = 3 then 151 else 152
def tellA (p : Int) (c : Nat) : Array Value := if p = 2 then #[] else #[.pointer (some ⟨c, 0, none⟩)]
def tellB (p : Int) (b : Nat) : Array Value := if p = 2 then #[.pointer (some ⟨b, 0, none⟩)] else #[]
def tellV (p : Int) (c b : Nat) : Value := .func (.func (tellF p)) (tellA p c) (tellB p b)
def patD (c b : Nat) : DataW Value := ((((DataW.map []).put (.int .i64 1) (.held (tellV 1 c b))).put (.int .i64 2) (.held (tellV 2 c b))).put (.int .i64 3) (.held (tellV 3 c b))).put (.int .i64 4) (.held (tellV 4 c b))
end Gno
namespace Go.Proofs.YtbbbeldbhlehnaaGreatDoor
open Go.RowKit Gno Go.Maps
theorem patD_map (c b : Nat) : patD c b = .map [(.int .i64 1, .held (tellV 1 c b)), (.int .i64 2, .held (tellV 2 c b)), (.int .i64 3, .held (tellV 3 c b)), (.int .i64 4, .held (tellV 4 c b))] := by rfl
theorem zero_tell (w : World) : (zeroValue 79).run Tryz.prog w = .ok .nilFunc w := by kernel_rfl
theorem lookP_of {w : World} {b c b0 : Nat} (h : w.ownsMap Tryz.prog 3 heldR b 4 (patD c b0)) {k : Int} (hk : (Lit.int .i64 k).wf = true) {V : Value} (hat : (patD c b0).atKey (.int .i64 k) (.held .nilFunc) = .held V) {s : Bool} (hs : Maps.has (patD c b0) (.int .i64 k) = s) :
 (Instr.lookup 138 (.map (some b)) (.int .i64 k) true).run Tryz.prog w = .ok (.tuple #[V, .bool s]) w := by
 obtain ⟨v, ps, hrun, hv⟩ := h.look_ok keyed_int Tryz.underlying138 (zero_tell w) (heldR_mk _) (keyOf_int_mk Tryz.underlying3 hk)
 rw [hat] at hv
 simp only [heldR, Option.some.injEq, Prod.mk.injEq, DataW.held.injEq] at hv
 rw [hrun, hv.1, hs]
theorem lookP_yes {w : World} {b c b0 : Nat} (h : w.ownsMap Tryz.prog 3 heldR b 4 (patD c b0)) {k : Int} (hk : 1 ≤ k ∧ k ≤ 4) :
 (Instr.lookup 138 (.map (some b)) (.int .i64 k) true).run Tryz.prog w = .ok (.tuple #[tellV k c b0, .bool true]) w := by
 have hx : k = 1 ∨ k = 2 ∨ k = 3 ∨ k = 4 := by omega
 rcases hx with rfl | rfl | rfl | rfl
 ·exact lookP_of h (by decide) (by rfl) (by rfl)
 ·exact lookP_of h (by decide) (by rfl) (by rfl)
 ·exact lookP_of h (by decide) (by rfl) (by rfl)
 ·exact lookP_of h (by decide) (by rfl) (by rfl)
theorem lookP_no {w : World} {b c b0 : Nat} (h : w.ownsMap Tryz.prog 3 heldR b 4 (patD c b0)) {k : Int} (hw : (Lit.int .i64 k).wf = true) (hk : ¬ (1 ≤ k ∧ k ≤ 4)) :
 (Instr.lookup 138 (.map (some b)) (.int .i64 k) true).run Tryz.prog w = .ok (.tuple #[.nilFunc, .bool false]) w := by
 have e1 : decide ((1 : Int) = k) = false := decide_eq_false (by omega)
 have e2 : decide ((2 : Int) = k) = false := decide_eq_false (by omega)
 have e3 : decide ((3 : Int) = k) = false := decide_eq_false (by omega)
 have e4 : decide ((4 : Int) = k) = false := decide_eq_false (by omega)
 refine lookP_of h hw ?_ ?_
 ·rw [patD_map]
  simp only [DataW.atKey, List.find?, Lit.sameKey]
  simp only [true_and, e1, e2, e3, e4]
 ·rw [patD_map]
  simp [Maps.has, Lit.sameKey]
  omega
theorem below_sz {w w' : World} {o : Obj} (h : Below (w.heap.size + 1) (w.alloc o) w') : w.heap.size + 1 ≤ w'.heap.size := by have := h.size; simpa using this
theorem below_ownAt {B b : Nat} {w w1 w2 : World} (h : Below B w w1) (hg : w1.grownBy w2 (some b)) (hs : B ≤ w1.heap.size) (hb : B ≤ b) : Below B w w2 := h.grown hg hs fun k hk => by injection hk with hk; omega
set_option maxRecDepth 100000 in
set_option maxHeartbeats 4000000 in
theorem patterns_any (c : Nat) (w : World) : Calls Tryz.prog 73 #[.pointer (some ⟨c, 0, none⟩)] w fun e w' => e = .returned (.map (some (w.heap.size + 1))) ∧ w'.ownsMap Tryz.prog 3 heldR (w.heap.size + 1) 4 (patD c w.heap.size) ∧ Below (w.heap.size + 1) (w.alloc (.cells #[.pointer (some ⟨c, 0, none⟩)] 133)) w' := by
 have h0 : ((w.alloc (.cells #[.pointer (some ⟨c, 0, none⟩)] 133)).alloc (.map #[] 0)).ownsMap Tryz.prog 3 heldR (w.heap.size + 1) 0 (.map []) := by
  have := World.ownsMap_made (w.alloc (.cells #[.pointer (some ⟨c, 0, none⟩)] 133)) Tryz.prog 3 heldR
  simp at this
  exact this
 have hb0 : Below (w.heap.size + 1) (w.alloc (.cells #[.pointer (some ⟨c, 0, none⟩)] 133)) ((w.alloc (.cells #[.pointer (some ⟨c, 0, none⟩)] 133)).alloc (.map #[] 0)) := (Below.refl _ _).alloc (by simp) _
 have hmm := @run_makeMap Tryz.prog
 have hmf : ∀ (fn : Fn) (first cap : Array Value) (w : World), (Instr.makeFunc fn first cap).run Tryz.prog w = .ok (.func fn first cap) w := fun _ _ _ _ => rfl
 have hk0 : Hid (∀ W, Below (w.heap.size + 1) (w.alloc (.cells #[.pointer (some ⟨c, 0, none⟩)] 133)) W → W.cell? ⟨w.heap.size, 0, none⟩ = some (.pointer (some ⟨c, 0, none⟩))) := Lib.hid fun W h => cell_ofU ((h.block w.heap.size (by omega)).trans (World.alloc_heap_new w _)) rfl
 have q0 := hk0.out _ hb0
 have hs0 := below_sz hb0
 go_enter Tryz.func73, Tryz.ntmps73
 go_wp2_with (refine wpList_insert_own _ rfl _ _ _ 138 rfl 3 79 keyed_int Tryz.underlying138 heldR (w.heap.size + 1) _ _ (by first | rfl | simp) (by assumption) (by unfold maxLen; omega) _ _ _ rfl rfl (keyOf_int_mk Tryz.underlying3 (by decide)) _ [] (heldR_mk _) ?_; intro w1 hown1 hgrow1; have hbw := below_ownAt (by assumption) hgrow1 (by assumption) (by omega); have hsz := below_sz hbw; have q1 := hk0.out _ hbw; clear hgrow1)
 go_ret
 exact ⟨rfl, by assumption, by assumption⟩
theorem tell_enters {p : Int} (hp : 1 ≤ p ∧ p ≤ 4) : ∀ args w, (callFunc (tellF p) args).run Tryz.prog w = .ok (.enter (tellF p) args) w := by
 have hx : p = 1 ∨ p = 2 ∨ p = 3 ∨ p = 4 := by omega
 rcases hx with rfl | rfl | rfl | rfl
 ·exact enters_of Tryz.func149 (by kernel_rfl) rfl
 ·exact enters_of Tryz.func150 (by kernel_rfl) rfl
 ·exact enters_of Tryz.func151 (by kernel_rfl) rfl
 ·exact enters_of Tryz.func152 (by kernel_rfl) rfl
theorem tell_any (x : Wd) (c g b0 : Nat) (k t p : Int) (i : Nat) (z : Zn) (w : World) (hW : WdAt w x) (hM : MaxAt w w.heap.size) (hC : CalAt w c g x k t) (hB : w.cell? ⟨b0, 0, none⟩ = some (.pointer (some ⟨c, 0, none⟩))) (hR : RightW x) (hk : -1 ≤ k) (hk2 : k < x.bn) (hz : x.d.zs[i]? = some z) (ht : t < 1893456000) (hp : 1 ≤ p ∧ p ≤ 4) :
 Calls Tryz.prog (tellF p) (tellA p c ++ #[.int .i64 i] ++ tellB p b0) w fun e w' => e = .returned (.string (calledZ x k z t p)) ∧ Below w.heap.size w w' := by
 have hx : p = 1 ∨ p = 2 ∨ p = 3 ∨ p = 4 := by omega
 rcases hx with rfl | rfl | rfl | rfl
 ·exact callOff_any x c g k t i z w hW hM hC (rightE_of hR.data) hz ht
 ·exact callId_any x c g b0 k t i z w hW hC hB hz
 ·exact callName_any x c g k t i z w hW hM hC hR hk hk2 hz ht
 ·exact callCity_any x c g k t i z w hW hM hC hR hk hk2 hz
def TellAt (W : World) (x : Wd) (loc : ByteArray) (t : Int) (c b0 : Nat) : Prop := ∃ g, CalAt W c g x (bookN x.bs loc) t ∧ W.cell? ⟨b0, 0, none⟩ = some (.pointer (some ⟨c, 0, none⟩))
theorem TellAt.next {W V : World} {x : Wd} {loc : ByteArray} {t : Int} {c b0 : Nat} (h : TellAt W x loc t c b0) (hb : Below W.heap.size W V) : TellAt V x loc t c b0 := by
 obtain ⟨g, h1, h2⟩ := h
 exact ⟨g, h1.next hb, (hb.cell (lt_of_cellN h2)).trans h2⟩
set_option maxRecDepth 100000 in
set_option maxHeartbeats 8000000 in
theorem teller_any (x : Wd) (loc : ByteArray) (t p ze : Int) (zf : Nat) (zc : Array Value) (w : World) (hW : WdAt w x) (hM : MaxAt w w.heap.size) (hpw : (Lit.int .i64 p).wf = true) (eg : ∀ args w, (callFunc zf args).run Tryz.prog w = .ok (.enter zf args) w)
 (hz : ∀ W, Below w.heap.size w W → Calls Tryz.prog zf zc W fun e w' => e = .returned (.int .i64 ze) ∧ Below W.heap.size W w') :
 Calls Tryz.prog 36 #[x.val, .string loc, .int .i64 t, .int .i64 p, .func (.func zf) #[] zc] w fun e w' => ∃ v, e = .returned (.tuple #[v, .int .i64 (tellE x loc t p ze)]) ∧ Below w.heap.size w w' ∧ (tellE x loc t p ze = 0 → ∃ c b0, v = tellV p c b0 ∧ TellAt w' x loc t c b0) := by
 have HX := Lib.hid (fun W (h : Below (w.heap.size + 1) (w.alloc (Wobj x)) W) => boxW hW h)
 have K1 := Lib.hid (fun W (h : Below (w.heap.size + 1) (w.alloc (Wobj x)) W) => worldCk_any x W (HX.out W h).2.1 (hM.next (HX.out W h).1))
 have B1 := Lib.hid (fun W (h : Below (w.heap.size + 1) (w.alloc (Wobj x)) W) => book_any x.bA x.bn x.bc x.bs loc W (HX.out W h).2.1.2.2)
 have Z1 := Lib.hid (fun W (h : Below (w.heap.size + 1) (w.alloc (Wobj x)) W) => hz W (HX.out W h).1)
 have P1 := Lib.hid patterns_any
 have hbb : Below (w.heap.size + 1) (w.alloc (Wobj x)) (w.alloc (Wobj x)) := Below.refl _ _
 have HT : Hid (∀ E v w', Below w.heap.size w w' → tellE x loc t p ze = E → (E = 0 → ∃ c b0, v = tellV p c b0 ∧ TellAt w' x loc t c b0) → ∃ v', (Ending.returned (.tuple #[v, .int .i64 E]) : Ending) = .returned (.tuple #[v', .int .i64 (tellE x loc t p ze)]) ∧ Below w.heap.size w w' ∧ (tellE x loc t p ze = 0 → ∃ c b0, v' = tellV p c b0 ∧ TellAt w' x loc t c b0)) := Lib.hid fun E v w' h1 h2 h3 => ⟨v, by rw [h2], h1, by rw [h2]; exact h3⟩
 unfold Wd.val at *
 clear hW hM hz
 by_cases hwe : worldE x = 0
 ·rw [hwe] at K1
  go_enter Tryz.func36, Tryz.ntmps36
  go_wp2_with fail
  refine (K1.out _ hbb).mono ?_
  rintro e w1 ⟨rfl, h1⟩
  have H1 := Lib.hid (boxW_more hbb h1)
  obtain ⟨_, _, hcc⟩ := HX.out _ H1.out
  unfold WdCells at hcc
  obtain ⟨c0, c1, c2, c3, c4⟩ := hcc
  clear h1 hbb K1
  go_wp2_with fail
  refine (B1.out _ H1.out).mono ?_
  rintro e w2 ⟨rfl, h2⟩
  have H2 := Lib.hid (boxW_more H1.out h2)
  clear h2 c0 c1 c2 c3 c4 B1
  go_wp2_with fail
  refine (P1.out _ _).mono ?_
  rintro e w4 ⟨rfl, hown, h4⟩
  have hz2 : w.heap.size + 1 ≤ w2.heap.size := by have := H2.out.size; simpa using this
  have e23 : (w2.alloc (.cells #[.pointer (some ⟨w.heap.size, 0, none⟩), .int .i64 (bookN x.bs loc), .int .i64 t] 136)).heap.size = w2.heap.size + 1 := by simp
  rw [e23] at h4 hown
  have hb4 : Below w2.heap.size w2 w4 := (((Below.refl w2.heap.size w2).alloc (Nat.le_refl _) (.cells #[.pointer (some ⟨w.heap.size, 0, none⟩), .int .i64 (bookN x.bs loc), .int .i64 t] 136)).alloc (by simp) (.cells #[.pointer (some ⟨w2.heap.size, 0, none⟩)] 133)).trans (h4.mono (by omega))
  have H4 := Lib.hid (boxW_more H2.out hb4)
  have k1 := (h4.block w2.heap.size (by omega)).trans ((Below.heap_alloc _ _ _ (by simp)).trans (World.alloc_heap_new w2 (.cells #[.pointer (some ⟨w.heap.size, 0, none⟩), .int .i64 (bookN x.bs loc), .int .i64 t] 136)))
  have k2 : w4.heap[w2.heap.size + 1]? = some (.cells #[.pointer (some ⟨w2.heap.size, 0, none⟩)] 133) := by
   have k9 := World.alloc_heap_new (w2.alloc (.cells #[.pointer (some ⟨w.heap.size, 0, none⟩), .int .i64 (bookN x.bs loc), .int .i64 t] 136)) (.cells #[.pointer (some ⟨w2.heap.size, 0, none⟩)] 133)
   rw [e23] at k9
   exact (h4.block (w2.heap.size + 1) (by omega)).trans k9
  have HTA : Hid (TellAt w4 x loc t w2.heap.size (w2.heap.size + 1)) := Lib.hid ⟨w.heap.size, ⟨⟨cell_ofU k1 rfl, cell_ofU k1 rfl, cell_ofU k1 rfl⟩, (HX.out _ H4.out).2.2⟩, cell_ofU k2 rfl⟩
  have d1 : w4.cell? ⟨w2.heap.size, 1, none⟩ = some (.int .i64 (bookN x.bs loc)) := cell_ofU k1 rfl
  have HF := Lib.hid (HX.out _ H4.out).1
  clear h4 hb4 k1 k2 H2 H1 e23
  by_cases hp : 1 ≤ p ∧ p ≤ 4
  ·have hlk := lookP_yes hown hp
   by_cases hbk : bookN x.bs loc < 0
   ·have HE := Lib.hid (tellE_book (t := t) (ze := ze) hwe hp hbk)
    obtain ⟨BK, hBK⟩ : ∃ v, v = bookN x.bs loc := ⟨_, rfl⟩
    rw [← hBK] at d1 hbk
    have g1 : decide (BK < (0 : Int)) = true := decide_eq_true hbk
    clear hBK hbk hown
    go_wp2_with fail
    go_ret2
    exact HT.out 4 _ _ HF.out HE.out (fun h => by cases h)
   ·have hpre := preE_is (loc := loc) (p := p) hwe hp hbk
    obtain ⟨BK, hBK⟩ : ∃ v, v = bookN x.bs loc := ⟨_, rfl⟩
    rw [← hBK] at d1 hbk
    have g1 : decide (BK < (0 : Int)) = false := decide_eq_false hbk
    clear hBK hbk hown
    go_wp2_with fail
    refine (Z1.out _ H4.out).mono ?_
    rintro e w5 ⟨rfl, h5⟩
    have HTB := Lib.hid (HTA.out.next h5)
    have HF5 := Lib.hid (HX.out _ (boxW_more H4.out h5)).1
    clear h5 hlk d1
    by_cases hze : ze = 0
    ·subst hze
     have HE := Lib.hid (tellE_time (loc := loc) (t := t) hpre)
     by_cases ht : t < 0
     ·have HE2 := Lib.hid (HE.out.trans (if_pos (.inl ht)))
      go_wp2_with fail
      go_ret2
      exact HT.out 3 _ _ HF5.out HE2.out (fun h => by cases h)
     ·by_cases ht2 : 1893456000 ≤ t
      ·have HE2 := Lib.hid (HE.out.trans (if_pos (.inr ht2)))
       go_wp2_with fail
       go_ret2
       exact HT.out 3 _ _ HF5.out HE2.out (fun h => by cases h)
      ·have HE2 := Lib.hid (HE.out.trans (if_neg (by omega)))
       go_wp2_with fail
       go_ret2
       exact HT.out 0 _ _ HF5.out HE2.out (fun _ => ⟨_, _, rfl, HTB.out⟩)
    ·have HE := Lib.hid (tellE_zone (t := t) hpre hze)
     have g2 : (ze != 0) = true := by simpa using hze
     go_wp2_with fail
     go_ret2
     exact HT.out ze _ _ HF5.out HE.out (fun h => absurd h hze)
  ·have hlk := lookP_no hown hpw hp
   have HE := Lib.hid (tellE_kind (loc := loc) (t := t) (ze := ze) hwe hp)
   clear hown d1
   go_wp2_with fail
   go_ret2
   exact HT.out 8 _ _ HF.out HE.out (fun h => by cases h)
 ·have HE := Lib.hid (tellE_world (loc := loc) (t := t) (p := p) (ze := ze) hwe)
  obtain ⟨E, hE⟩ : ∃ E, E = worldE x := ⟨_, rfl⟩
  rw [← hE] at K1 HE hwe
  have g1 : (E != 0) = true := by simpa using hwe
  clear hE
  go_enter Tryz.func36, Tryz.ntmps36
  go_wp2_with fail
  refine (K1.out _ hbb).mono ?_
  rintro e w1 ⟨rfl, h1⟩
  have HF := Lib.hid (HX.out _ (boxW_more hbb h1)).1
  clear h1 hbb
  go_wp2
  go_ret2
  exact HT.out E _ _ HF.out HE.out (fun h => absurd h hwe)
end Go.Proofs.YtbbbeldbhlehnaaGreatDoor
end
section
namespace Gno
open Go
def leadE (d : Dt) (nm : ByteArray) : Int := if leadN d nm < 0 then 4 else 0
end Gno
namespace Go.Proofs.YtbbbeldbhlehnaaGreatDoor
open Go.RowKit Gno
end Go.Proofs.YtbbbeldbhlehnaaGreatDoor
end
section
namespace Gno
open Go
noncomputable def wdsUp (x : Wd) (loc : ByteArray) (t p : Int) (i : Nat) : List ByteArray := (x.d.zs.take i).map fun z => calledZ x (bookN x.bs loc) z t p
theorem wdsUp_step {x : Wd} {loc : ByteArray} {t p : Int} {i : Nat} {z : Zn} (h : x.d.zs[i]? = some z) : wdsUp x loc t p (i + 1) = wdsUp x loc t p i ++ [calledZ x (bookN x.bs loc) z t p] := by
 unfold wdsUp
 rw [take_snoc' h, List.map_append]
 rfl
theorem wdsUp_len {x : Wd} {loc : ByteArray} {t p : Int} (i : Nat) : (wdsUp x loc t p i).length ≤ i := by
 unfold wdsUp
 rw [List.length_map, List.length_take]; omega
theorem wdsL_is {x : Wd} {loc : ByteArray} {t p : Int} {i : Nat} (h : wdsE x loc t p = 0) (hi : x.d.zs.length ≤ i) : wdsUp x loc t p i = wdsL x loc t p := by
 unfold wdsUp wdsL
 rw [if_neg (by simp [h]), List.take_of_length_le hi]
theorem wdsL_bad {x : Wd} {loc : ByteArray} {t p : Int} (h : wdsE x loc t p ≠ 0) : wdsL x loc t p = [] := by
 unfold wdsL; rw [if_pos h]
theorem data_few {d : Dt} (e0 : dataE d = 0) : d.zn ≤ 5 := by
 cases hm : manyD d
 ·exact (manyD_le hm).2.1
 ·exfalso
  unfold dataE at e0
  rw [if_pos hm] at e0
  exact absurd e0 (by decide)
end Gno
namespace Go.Proofs.YtbbbeldbhlehnaaGreatDoor
open Go.RowKit Gno
theorem wordsF_any (w : World) : Calls Tryz.prog 59 #[] w fun e w' => e = .returned (.int .i64 0) ∧ Below w.heap.size w w' := by
 go_enter Tryz.func59, Tryz.ntmps59
 go_wp2
 go_ret
 exact ⟨rfl, Below.refl _ _⟩
set_option maxRecDepth 100000 in
set_option maxHeartbeats 8000000 in
theorem wordsP_any (x : Wd) (loc : ByteArray) (t p : Int) (w : World) (hW : WdAt w x) (hM : MaxAt w w.heap.size) (hpw : (Lit.int .i64 p).wf = true) :
 Calls Tryz.prog 23 #[x.val, .string loc, .int .i64 t, .int .i64 p] w fun e w' => ∃ v, e = .returned (.tuple #[v, .int .i64 (wdsE x loc t p)]) ∧ w'.ownsRow (w.heap.size + 1) 9 1 v (wdsL x loc t p).length (strs (wdsL x loc t p)) ∧ Below w.heap.size w w' := by
 have HX := Lib.hid (fun W (h : Below (w.heap.size + 1) (w.alloc (Wobj x)) W) => boxW hW h)
 have T1 : Hid (∀ W, Below (w.heap.size + 1) (w.alloc (Wobj x)) W → Calls Tryz.prog 36 #[x.val, .string loc, .int .i64 t, .int .i64 p, .func (.func 59) #[] #[]] W fun e w' => ∃ v, e = .returned (.tuple #[v, .int .i64 (wdsE x loc t p)]) ∧ Below W.heap.size W w' ∧ (wdsE x loc t p = 0 → ∃ c b0, v = tellV p c b0 ∧ TellAt w' x loc t c b0)) := Lib.hid fun W h2 => by
  have hW1 := (HX.out _ h2).1
  have := teller_any x loc t p 0 59 #[] W (hW.next hW1) (hM.next hW1) hpw (enters_of Tryz.func59 (by kernel_rfl) rfl) (fun V _ => wordsF_any V)
  rw [tell_words] at this
  exact this
 have hbb : Below (w.heap.size + 1) (w.alloc (Wobj x)) (w.alloc (Wobj x)) := Below.refl _ _
 have NX := Lib.hid (fun W (h : Below w.heap.size w W) => (⟨hW.next h, hM.next h⟩ : WdAt W x ∧ MaxAt W W.heap.size))
 have hzn : x.d.zs.length = x.d.zn := hW.1.2.1.1
 unfold WdCells at HX
 unfold Wd.val at *
 clear hW hM hpw
 by_cases hE : wdsE x loc t p = 0
 ·obtain ⟨hpe, ht0, ht1⟩ := wdsE_zero hE
  obtain ⟨hR, hp1, hp4, hbk⟩ := preE_zero hpe
  have hfew := data_few hR.data
  have hbn := (bookN_range x.bs loc).2
  have HT1 : Hid (∀ W c b0 i z, x.d.zs[i]? = some z → Below w.heap.size w W → TellAt W x loc t c b0 → Calls Tryz.prog (tellF p) (tellA p c ++ #[.int .i64 (i : Nat)] ++ tellB p b0) W fun e w' => e = .returned (.string (calledZ x (bookN x.bs loc) z t p)) ∧ Below W.heap.size W w') := Lib.hid fun W c b0 i z hz h hta => by
   obtain ⟨g, hg1, hg2⟩ := hta
   have h9 := NX.out W h
   exact tell_any x c g b0 (bookN x.bs loc) t p i z W h9.1 h9.2 hg1 hg2 hR (by omega) (by rw [← h9.1.2.2.1]; exact hbn) hz ht1 ⟨hp1, hp4⟩
  have HEG := Lib.hid (tell_enters ⟨hp1, hp4⟩)
  have HST := Lib.hid (fun i z (h : x.d.zs[i]? = some z) => wdsUp_step (loc := loc) (t := t) (p := p) h)
  have HUL := Lib.hid (fun i => wdsUp_len (x := x) (loc := loc) (t := t) (p := p) i)
  have HEND : Hid (wdsUp x loc t p x.d.zn = wdsL x loc t p) := Lib.hid (wdsL_is hE (by omega))
  have HG : Hid (∀ i, i < x.d.zn → ∃ z, x.d.zs[i]? = some z) := Lib.hid fun i hi => ⟨_, List.getElem?_eq_getElem (by omega)⟩
  rw [hE] at T1 ⊢
  clear hE hpe ht0 ht1 hR hp1 hp4 hbk hbn hzn
  go_enter Tryz.func23, Tryz.ntmps23
  go_wp2_with fail
  refine (T1.out _ hbb).mono ?_
  rintro e w3 ⟨v, rfl, h3, htell⟩
  obtain ⟨c, b0, rfl, hta⟩ := htell (by first | trivial | rfl)
  have HB3 : Hid (Below (w.heap.size + 1) (w.alloc (Wobj x)) w3) := Lib.hid (boxW_more hbb h3)
  have HTA := Lib.hid hta
  obtain ⟨_, _, c0, c1, c2, c3, c4⟩ := HX.out _ HB3.out
  have HC2 : Hid (∀ W i z, x.d.zs[i]? = some z → Below w3.heap.size w3 W → Calls Tryz.prog (tellF p) (tellA p c ++ #[.int .i64 (i : Nat)] ++ tellB p b0) W fun e w' => e = .returned (.string (calledZ x (bookN x.bs loc) z t p)) ∧ Below W.heap.size W w') := Lib.hid fun W i z hz h => HT1.out W c b0 i z hz (HX.out _ (boxW_more HB3.out h)).1 (HTA.out.next h)
  have heg := HEG.out
  unfold tellV
  obtain ⟨F, hF⟩ : ∃ F, F = tellF p := ⟨_, rfl⟩
  obtain ⟨A, hA⟩ : ∃ A, A = tellA p c := ⟨_, rfl⟩
  obtain ⟨B, hB⟩ : ∃ A, A = tellB p b0 := ⟨_, rfl⟩
  rw [← hF, ← hA, ← hB] at HC2
  rw [← hF] at heg
  rw [← hF, ← hA, ← hB]
  clear hF hA hB hta h3 htell hbb T1 HT1 HEG
  have H3 : Hid (Below w3.heap.size w3 w3) := Lib.hid (Below.refl _ _)
  go_wp2_with fail
  clear c0 c1 c2 c3 c4
  go_loopw [12, 29] (fun b11 b27 wr => ∃ (i : Nat) (v : Value), i ≤ x.d.zn ∧ b27 = .int .i64 i ∧ v = b11 ∧ Hid (wr.ownsRow w3.heap.size 9 1 v (wdsUp x loc t p i).length (strs (wdsUp x loc t p i))) ∧ Hid (Below w3.heap.size w3 wr)) (fun _ b27 _ => x.d.zn - (intOf b27).toNat)
  case atStart => exact ⟨0, _, Nat.zero_le _, rfl, rfl, Lib.hid (World.ownsRow_nil _ _ _ _), H3⟩
  case round =>
   clear H3
   obtain ⟨i, v, hi, rfl, rfl, hO, hb⟩ := hrel
   by_cases hit : i < x.d.zn
   ·obtain ⟨z, hz⟩ := HG.out i hit
    have HS := Lib.hid (HST.out i z hz)
    have HCC := Lib.hid (HC2.out _ i z hz hb.out)
    have hul := HUL.out i
    obtain ⟨L, hL⟩ : ∃ L, L = wdsUp x loc t p i := ⟨_, rfl⟩
    obtain ⟨M, hM⟩ : ∃ M, M = calledZ x (bookN x.bs loc) z t p := ⟨_, rfl⟩
    rw [← hL] at hO hul HS
    rw [← hM] at HCC HS
    have HO := hO
    have HBX := hb
    clear hL hM hO hb hz
    go_wp2_with fail
    refine HCC.out.mono ?_
    rintro e w6 ⟨rfl, hb7⟩
    have HB7 : Hid (Below w3.heap.size w3 w6) := Lib.hid (HBX.out.trans (hb7.mono HBX.out.size))
    have HO7 := Lib.hid (own_belowU HO.out hb7 (Nat.le_refl _))
    have hs7 : w3.heap.size ≤ w6.heap.size := HB7.out.size
    clear hb7 HCC HO HBX
    go_wp2_with (at_builtin; go_must (refine wpList_app HB7.out hs7 _ 9 rfl _ _ 56 rfl Tryz.underlying56 _ 1 16 infoStr rfl (by decide) _ L.length _ rfl HO7.out 1 rfl rfl (by simp [Value.oneCell']) (by unfold maxLen; omega) (by omega) ?_); intro v' w8 hown8 hb8 _)
    have HR : Hid (w8.ownsRow w3.heap.size 9 1 v' (wdsUp x loc t p (i + 1)).length (strs (wdsUp x loc t p (i + 1)))) := Lib.hid (by
     rw [HS.out, List.length_append]
     simpa [strs] using hown8)
    have HB8 := Lib.hid hb8
    clear hown8 hb8
    try go_wp2
    go_roundw
    case rel => exact ⟨i + 1, v', by omega, by go_num, rfl, HR, HB8⟩
    case measure => simp [intOf]; omega
   ·have hin : i = x.d.zn := by omega
    have HR : Hid (wr.ownsRow (w.heap.size + 1) 9 1 v (wdsL x loc t p).length (strs (wdsL x loc t p))) := Lib.hid (by rw [← HEND.out, ← hin]; exact own_baseU hO.out (by have := HB3.out.size; simpa using this))
    have HF := Lib.hid (HX.out _ (boxW_more HB3.out hb.out)).1
    clear hin
    go_wp2
    go_ret2
    exact ⟨v, rfl, HR.out, HF.out⟩
 ·rw [wdsL_bad hE]
  obtain ⟨E, hEE⟩ : ∃ E, E = wdsE x loc t p := ⟨_, rfl⟩
  rw [← hEE] at T1 hE ⊢
  have g1 : (E != 0) = true := by simpa using hE
  clear hEE hE hzn
  go_enter Tryz.func23, Tryz.ntmps23
  go_wp2_with fail
  refine (T1.out _ hbb).mono ?_
  rintro e w3 ⟨v, rfl, h3, _⟩
  have HF := Lib.hid (HX.out _ (boxW_more hbb h3)).1
  clear h3 hbb T1
  go_wp2
  go_ret2
  exact ⟨_, rfl, World.ownsRow_nil _ _ _ _, HF.out⟩
end Go.Proofs.YtbbbeldbhlehnaaGreatDoor
end
section
set_option maxRecDepth 100000
namespace Go.Proofs.YtbbbeldbhlehnaaGreatDoor
open Go.ChangeShapes Go.WideShapes Go.ChangeAt Go.RowKit Gno
theorem cellsWorld : Tryz.prog.cellsOf 30 = 5 := by kernel_rfl
theorem cellsUsesS : Tryz.prog.cellsOf 27 = 1 := by kernel_rfl
theorem cellsBooksS : Tryz.prog.cellsOf 28 = 1 := by kernel_rfl
section
variable {H : Type} {enc : TypeId × Value → H} {w : World} {base : Nat} {spare : Nat → Bool} {held : Bool}
theorem trod_Data {fuel : Nat} {cs : List Value} {x : DataW H × List MemPlace} (ht : DataW.trod enc Tryz.prog w base spare held fuel 26 cs = some x) (hx : Small x.1) :
 ∃ d : Dt, cs = [.slice d.sA d.sn d.sc, .slice d.zA d.zn d.zc, .slice d.lA d.ln d.lc] ∧ DataAt w w.heap.size d := by
 obtain ⟨xs, n, _, rfl, hl, hlen, hf⟩ := DataW.trod_struct Tryz.underlying26 ht
 have hlen' : xs.length = 3 := by simpa using hlen
 match cs, hl.trans cellsData with
 | [c0, c1, c2], _ =>
   have h0 := hf 0 _ rfl
   have h1 := hf 1 _ rfl
   have h2 := hf 2 _ rfl
   simp [cellsSets, cellsZones, cellsLinks] at h0 h1 h2
   rw [List.getElem?_eq_getElem (by omega)] at h0 h1 h2
   obtain ⟨A0, n0, cap0, ss, e0, _, _, hss, _⟩ := open_slice_sm (α := St) (sz := 2) Tryz.underlying22 cellsSet (by omega) (fun w B b o s => StAt w b o s ∧ s.name.size ≤ maxLen ∧ RulesAt w B s.A s.n s.rs) (fun fuel cs x ht hx => by
    obtain ⟨a, rfl, hs, hr⟩ := trod_Set ht hx
    exact ⟨a, rfl, fun b o hc => ⟨⟨hc 0 (by omega), hc 1 (by omega)⟩, hs, hr⟩⟩) h0 (part_small hx (i := 0) (by omega))
   obtain ⟨A1, n1, cap1, zs, e1, _, _, hzs, _⟩ := open_slice_sm (α := Zn) (sz := 2) Tryz.underlying23 cellsZone (by omega) (fun w B b o z => ZnAt w b o z ∧ z.name.size ≤ maxLen ∧ ErasAt w B z.A z.n z.es) (fun fuel cs x ht hx => by
    obtain ⟨a, rfl, hs, hr⟩ := trod_Zone ht hx
    exact ⟨a, rfl, fun b o hc => ⟨⟨hc 0 (by omega), hc 1 (by omega)⟩, hs, hr⟩⟩) h1 (part_small hx (i := 1) (by omega))
   obtain ⟨A2, n2, cap2, ls, e2, _, _, hls, hn2, hN2⟩ := open_slice_sm (α := Lk) (sz := 2) Tryz.underlying24 cellsLink (by omega) (fun w B b o l => LkAt w b o l ∧ l.name.size ≤ maxLen ∧ l.to.size ≤ maxLen) (fun fuel cs x ht hx => by
    obtain ⟨a, rfl, hs, hr⟩ := trod_Link ht
    exact ⟨a, rfl, fun b o hc => ⟨⟨hc 0 (by omega), hc 1 (by omega)⟩, hs, hr⟩⟩) h2 (part_small hx (i := 2) (by omega))
   simp at e0 e1 e2
   exact ⟨{ sA := A0, sn := n0, sc := cap0, ss := ss, zA := A1, zn := n1, zc := cap1, zs := zs, lA := A2, ln := n2, lc := cap2, ls := ls }, by rw [e0, e1, e2], ⟨hss, hzs, hls, (show n2 ≤ fmtMax by unfold fmtMax; omega)⟩⟩
theorem trod_Uses {fuel : Nat} {cs : List Value} {x : DataW H × List MemPlace} (ht : DataW.trod enc Tryz.prog w base spare held fuel 27 cs = some x) :
 ∃ (A : Option Addr) (n cap : Nat) (l : List Us), cs = [.slice A n cap] ∧ n ≤ cap ∧ UsesAt w w.heap.size A n l := by
 obtain ⟨A, n, cap, l, e, hnc, _, h4⟩ := open_slice_gen (α := Us) (sz := 4) Tryz.underlying27 cellsUse (by omega) (fun w B b o u => UsAt w b o u ∧ u.zone.size ≤ maxLen ∧ u.mt.size ≤ maxLen) (fun fuel cs x ht => by
  obtain ⟨xs, n, _, _, hl, hlen, hf⟩ := DataW.trod_struct Tryz.underlying151 ht
  match cs, hl.trans cellsUse with
  | [c0, c1, c2, c3], _ =>
    have h0 := hf 0 _ rfl
    have h1 := hf 1 _ rfl
    have h2 := hf 2 _ rfl
    have h3 := hf 3 _ rfl
    simp [cellsInt, cellsString] at h0 h1 h2 h3
    rw [List.getElem?_eq_getElem (by simp at hlen; omega)] at h0 h1 h2 h3
    obtain ⟨z, e0, _, hs⟩ := DataW.trod_string Tryz.underlying9 h0
    obtain ⟨f, e1, _⟩ := DataW.trod_int Tryz.underlying3 h1
    obtain ⟨t, e2, _⟩ := DataW.trod_int Tryz.underlying3 h2
    obtain ⟨m, e3, _, hs3⟩ := DataW.trod_string Tryz.underlying9 h3
    simp at e0 e1 e2 e3
    exact ⟨⟨z, f, t, m⟩, rfl, fun b o hc => ⟨⟨by have h9 := hc 0 (by omega); rw [e0] at h9; exact h9, by have h9 := hc 1 (by omega); rw [e1] at h9; exact h9, by have h9 := hc 2 (by omega); rw [e2] at h9; exact h9, by have h9 := hc 3 (by omega); rw [e3] at h9; exact h9⟩, hs, hs3⟩⟩) ht
 exact ⟨A, n, cap, l, e, hnc, h4⟩
theorem trod_Books {fuel : Nat} {cs : List Value} {x : DataW H × List MemPlace} (ht : DataW.trod enc Tryz.prog w base spare held fuel 28 cs = some x) :
 ∃ (A : Option Addr) (n cap : Nat) (bs : List Bk), cs = [.slice A n cap] ∧ n ≤ cap ∧ BooksAt w w.heap.size A n bs := by
 obtain ⟨A, n, cap, l, e, hnc, _, h4⟩ := open_slice_gen (α := Bk) (sz := 3) Tryz.underlying28 cellsBook (by omega) (fun w B b o k => BookAt w b o k ∧ k.loc.size ≤ maxLen ∧ PairsAt w B k.A k.n k.ps) (fun fuel cs x ht => by
  obtain ⟨xs, n, _, _, hl, hlen, hf⟩ := DataW.trod_struct Tryz.underlying43 ht
  match cs, hl.trans cellsBook with
  | [c0, c1, c2], _ =>
    have h0 := hf 0 _ rfl
    have h1 := hf 1 _ rfl
    have h2 := hf 2 _ rfl
    simp [cellsInt', cellsString', cellsPairs] at h0 h1 h2
    rw [List.getElem?_eq_getElem (by simp at hlen; omega)] at h0 h1 h2
    obtain ⟨loc, e0, _, hs⟩ := DataW.trod_string Tryz.underlying9 h0
    obtain ⟨par, e1, _⟩ := DataW.trod_int Tryz.underlying3 h1
    obtain ⟨A2, n2, cap2, ps, e2, _, _, hps⟩ := open_slice_gen (α := Pr) (sz := 2) Tryz.underlying41 cellsPair (by omega) (fun w B b o k => PairAt w b o k ∧ k.key.size ≤ maxLen ∧ k.text.size ≤ maxLen) (fun fuel cs x ht => by
     obtain ⟨xs, n, _, _, hl, hlen, hf⟩ := DataW.trod_struct Tryz.underlying163 ht
     match cs, hl.trans cellsPair with
     | [c0, c1], _ =>
       have h0 := hf 0 _ rfl
       have h1 := hf 1 _ rfl
       simp [cellsString'] at h0 h1
       rw [List.getElem?_eq_getElem (by simp at hlen; omega)] at h0 h1
       obtain ⟨k, e0, _, hs⟩ := DataW.trod_string Tryz.underlying9 h0
       obtain ⟨t, e1, _, hs1⟩ := DataW.trod_string Tryz.underlying9 h1
       simp at e0 e1
       exact ⟨⟨k, t⟩, rfl, fun b o hc => ⟨⟨by have h9 := hc 0 (by omega); rw [e0] at h9; exact h9, by have h9 := hc 1 (by omega); rw [e1] at h9; exact h9⟩, hs, hs1⟩⟩) h2
    simp at e0 e1 e2
    exact ⟨⟨loc, par, A2, n2, cap2, ps⟩, rfl, fun b o hc => ⟨⟨by have h9 := hc 0 (by omega); rw [e0] at h9; exact h9, by have h9 := hc 1 (by omega); rw [e1] at h9; exact h9, by have h9 := hc 2 (by omega); rw [e2] at h9; exact h9⟩, hs, hps⟩⟩) ht
 exact ⟨A, n, cap, l, e, hnc, h4⟩
theorem openWorld {b0 : Nat} {r : Reach} {v : Value} {dt : DataW H} {p : List MemPlace}
 (hv : Value.okWide Tryz.prog w r b0 30 v) (h : DataW.Trod enc Tryz.prog w base spare held 30 v dt p) (hx : Small dt) :
 ∃ x : Wd, v = x.val ∧ WdAt w x ∧ x.un ≤ x.uc ∧ x.bn ≤ x.bc := by
 obtain ⟨cs, rfl, _⟩ := okWide_struct Tryz.underlying30 hv
 obtain ⟨fuel, hf0⟩ := h
 obtain ⟨xs, n, _, hxs, hl, hlen, hf⟩ := DataW.trod_struct Tryz.underlying30 hf0
 clear hf0
 have hdt : dt = .agg (xs.map (·.1)) := congrArg (·.1) hxs
 subst hdt
 have hlen' : xs.length = 3 := by simpa using hlen
 have hcl : cs.toList.length = 5 := by simpa [Value.cells] using hl.trans cellsWorld
 match cs, hcl with
 | ⟨[c0, c1, c2, c3, c4]⟩, _ =>
   have h0 := hf 0 _ rfl
   have h1 := hf 1 _ rfl
   have h2 := hf 2 _ rfl
   simp [cellsData, cellsUsesS, cellsBooksS, Value.cells] at h0 h1 h2
   rw [List.getElem?_eq_getElem (by omega)] at h0 h1 h2
   obtain ⟨d, e0, hD⟩ := trod_Data h0 (part_small hx (i := 0) (by omega))
   obtain ⟨A1, n1, cap1, us, e1, hnc1, hU⟩ := trod_Uses h1
   obtain ⟨A2, n2, cap2, bs, e2, hnc2, hB⟩ := trod_Books h2
   simp at e0 e1 e2
   exact ⟨⟨d, A1, n1, cap1, us, A2, n2, cap2, bs⟩, by rw [e0.1, e0.2.1, e0.2.2, e1, e2]; rfl, ⟨hD, hU, hB⟩, hnc1, hnc2⟩
end
end Go.Proofs.YtbbbeldbhlehnaaGreatDoor
end
