/- The walk of BackIds. -/
import Derived.Test.YtbbbeldbhlehnaaGreatDoorMUBkT0
import Derived.Test.YtbbbeldbhlehnaaGreatDoorMUBkT1
import Derived.Test.YtbbbeldbhlehnaaGreatDoorMUBkT2
import Derived.Test.YtbbbeldbhlehnaaGreatDoorMUBkT3
import Derived.Test.YtbbbeldbhlehnaaGreatDoorMUBkT4
import Derived.Test.YtbbbeldbhlehnaaGreatDoorMUBkT5
import Derived.Test.YtbbbeldbhlehnaaGreatDoorMUBkT6
import Derived.Test.YtbbbeldbhlehnaaGreatDoorMUBkT7
import Derived.Test.YtbbbeldbhlehnaaGreatDoorMUBkT8
import Derived.Test.YtbbbeldbhlehnaaGreatDoorMUBkT9
import Derived.Test.YtbbbeldbhlehnaaGreatDoorMUBkT10
import Derived.Test.YtbbbeldbhlehnaaGreatDoorMUBkT11
import Derived.Test.YtbbbeldbhlehnaaGreatDoorMUBkT12
import Derived.Test.YtbbbeldbhlehnaaGreatDoorMUBkT13
import Derived.Test.YtbbbeldbhlehnaaGreatDoorMUBkT14
import Derived.Test.YtbbbeldbhlehnaaGreatDoorMUBkT15
import Derived.Test.YtbbbeldbhlehnaaGreatDoorMUBkT16
import Derived.Test.YtbbbeldbhlehnaaGreatDoorMUBkT17
import Derived.Test.YtbbbeldbhlehnaaGreatDoorMUBkT18
import Derived.Test.YtbbbeldbhlehnaaGreatDoorMUBkT19
import Derived.Test.YtbbbeldbhlehnaaGreatDoorMUBkT20
import Derived.Test.YtbbbeldbhlehnaaGreatDoorMUBkT21
import Derived.Test.YtbbbeldbhlehnaaGreatDoorMUBkT22
import Derived.Test.YtbbbeldbhlehnaaGreatDoorMUBkT23
import Derived.Test.YtbbbeldbhlehnaaGreatDoorMUBkT24
import Derived.Test.YtbbbeldbhlehnaaGreatDoorMUBkT25
import Derived.Test.YtbbbeldbhlehnaaGreatDoorMUBkT26
import Derived.Test.YtbbbeldbhlehnaaGreatDoorMUBkT27
import Derived.Test.YtbbbeldbhlehnaaGreatDoorMUBkT28
import Derived.Test.YtbbbeldbhlehnaaGreatDoorMUBkT29
import Derived.Test.YtbbbeldbhlehnaaGreatDoorMUBkT30
import Derived.Test.YtbbbeldbhlehnaaGreatDoorMUBkT31
import Derived.Test.YtbbbeldbhlehnaaGreatDoorMUBkT32
import Derived.Test.YtbbbeldbhlehnaaGreatDoorMUBkT33
import Derived.Test.YtbbbeldbhlehnaaGreatDoorMUBkT34
import Derived.Test.YtbbbeldbhlehnaaGreatDoorMUBkT35
import Derived.Test.YtbbbeldbhlehnaaGreatDoorMUBkT36
import Derived.Test.YtbbbeldbhlehnaaGreatDoorMUBkT37
import Derived.Test.YtbbbeldbhlehnaaGreatDoorMUBkT38
set_option linter.unusedSimpArgs false
set_option linter.unusedVariables false
set_option linter.unusedVariables false
set_option linter.unusedSimpArgs false
namespace Gno
open Go Go.RowKit Go.Proofs.YtbbbeldbhlehnaaGreatDoor
theorem names_nd {d : Dt} (h : dataE d = 0) : (d.zs.map (·.name)).Nodup := by
  have hr := right_of h
  rw [List.nodup_iff_pairwise_ne, List.pairwise_map, List.pairwise_iff_getElem]
  intro i j hi hj hij e
  have := hr.zz hij (List.getElem?_eq_getElem hi) (List.getElem?_eq_getElem hj)
  rw [e, same_refl] at this; cases this
theorem pre_self (s : ByteArray) : isPre s s := (isPre_iff s s).2 ⟨Nat.le_refl _, List.take_of_length_le (by rw [bs_len]; exact Nat.le_refl _)⟩
theorem one_of {l : List ByteArray} {a : ByteArray} (hn : l.Nodup) (hm : a ∈ l) (ha : ∀ b ∈ l, b = a) : l = [a] := by
  cases l with
  | nil => cases hm
  | cons b r =>
    obtain rfl := ha b (List.mem_cons_self ..)
    cases r with
    | nil => rfl
    | cons c r =>
      have := ha c (List.mem_cons_of_mem _ (List.mem_cons_self ..))
      subst this
      exact absurd (List.mem_cons_self ..) (List.nodup_cons.1 hn).1
/-- a word that is told is read whole. -/
theorem told_whole {x : Wd} {loc s : ByteArray} {t p : Int} (hs : s ∈ wdsL x loc t p) : prsM x loc s t p = s.size ∧ prsB x loc s t p = s := by
  have h1 : prsM x loc s t p ≤ s.size := (lgN_spec _ _ _).1
  have h2 : prsM x loc s t p = bestF s (wdsL x loc t p) 0 := best_is _ s
  have h3 := (best_spec s (wdsL x loc t p) 0).2.2 s hs (pre_self s)
  have h4 : prsM x loc s t p = s.size := by omega
  refine ⟨h4, ?_⟩
  unfold prsB
  rw [h4]
  exact bs_inj (by rw [bs_take]; exact List.take_of_length_le (by rw [bs_len]; exact Nat.le_refl _))
theorem own_parse {x : Wd} {loc : ByteArray} {t : Int} {k : Nat} {z : Zn} (hE : wdsE x loc t 2 = 0) (hz : x.d.zs[k]? = some z) : prsL x loc z.name t 2 = [z.name] ∧ prsN x loc z.name t 2 = z.name.size := by
  have hd := (preE_zero (wdsE_zero hE).1).1.data
  have hw : z.name ∈ wdsL x loc t 2 := by
    have := wdsL_at hE hz
    rw [called_id rfl] at this
    exact List.mem_of_getElem? this
  obtain ⟨h1, h2⟩ := told_whole hw
  obtain ⟨p1, p2⟩ := prsL_is (s := z.name) hE
  refine ⟨?_, p2.trans h1⟩
  rw [p1]
  have hu : prsUp x loc z.name t 2 x.d.zs.length = [z.name] := by
    unfold prsUp
    rw [List.take_of_length_le (Nat.le_refl _)]
    refine one_of ((names_nd hd).sublist (List.Sublist.map _ List.filter_sublist)) ?_ ?_
    · refine List.mem_map.2 ⟨z, List.mem_filter.2 ⟨List.mem_of_getElem? hz, ?_⟩, rfl⟩
      unfold prsHas
      rw [called_id rfl, h2, same_refl]
    · intro b hb
      obtain ⟨q, hq, rfl⟩ := List.mem_map.1 hb
      have := (List.mem_filter.1 hq).2
      unfold prsHas at this
      rw [called_id rfl, h2] at this
      exact (same_iff _ _).1 this
  rw [hu]
  exact sort_one z.name
end Gno
namespace Go.Proofs.YtbbbeldbhlehnaaGreatDoor
open Go.RowKit Gno
theorem one_row (W : World) (s : ByteArray) : (W.alloc (.cells #[.string s] 9)).ownsRow W.heap.size 9 1 (.slice (some ⟨W.heap.size, 0, none⟩) 1 1) 1 (strs [s]) :=
  ⟨rfl, .inr ⟨W.heap.size, 1, #[.string s], rfl, Nat.le_refl _, World.alloc_heap_new _ _, Nat.le_refl _, by decide, rfl, rfl⟩⟩
set_option maxRecDepth 100000 in
set_option maxHeartbeats 400000 in
theorem backIds_bad (x : Wd) (loc : ByteArray) (t i : Int) (w : World) (hW : WdAt w x) (hM : MaxAt w w.heap.size) (he : worldE x ≠ 0 ∨ x.d.zn = 0) :
    Calls Tryz.prog 9 #[x.val, .string loc, .int .i64 t, .int .i64 i] w fun e w' => e = .returned (.bool true) ∧ Below w.heap.size w w' := by
  have HX := Lib.hid (fun W (h : Below (w.heap.size + 1) (w.alloc (Wobj x)) W) => boxW hW h)
  have K1 := Lib.hid (fun W (h : Below (w.heap.size + 1) (w.alloc (Wobj x)) W) => worldCk_any x W (HX.out W h).2.1 (hM.next (HX.out W h).1))
  have BB := Lib.hid (fun W (h : Below (w.heap.size + 1) (w.alloc (Wobj x)) W) => backBegun_any W (hM.next (HX.out W h).1))
  have hbb : Below (w.heap.size + 1) (w.alloc (Wobj x)) (w.alloc (Wobj x)) := Below.refl _ _
  unfold WdCells at HX
  unfold Wd.val at *
  clear hW hM
  obtain ⟨E, hE⟩ : ∃ v, v = worldE x := ⟨_, rfl⟩
  rw [← hE] at K1 he
  clear hE
  have hg : ((E != 0) = true) ∨ ((E != 0) = false ∧ ((x.d.zn : Int) == 0) = true) := by
    by_cases h1 : E = 0
    · exact .inr ⟨by rw [h1]; rfl, by rcases he with h | h <;> first | exact absurd h1 h | (rw [h]; rfl)⟩
    · exact .inl (by simpa using h1)
  clear he
  rcases hg with g1 | ⟨g1, g2⟩
  all_goals
    go_enter Tryz.func9, Tryz.ntmps9
    go_wp2_with fail
    refine (K1.out _ hbb).mono ?_
    rintro e w1 ⟨rfl, h1⟩
    have H1 := Lib.hid (boxW_more hbb h1)
    obtain ⟨_, _, c0, c1, c2, c3, c4⟩ := HX.out _ H1.out
    clear h1 hbb
    go_wp2_with fail
    refine (BB.out _ H1.out).mono ?_
    rintro e w2 ⟨rfl, h2⟩
    have HF := Lib.hid (HX.out _ (boxW_more H1.out h2)).1
    clear h2 c0 c1 c2 c3 c4
    go_wp2
    go_ret
    exact ⟨rfl, HF.out⟩
set_option maxRecDepth 100000 in
set_option maxHeartbeats 400000 in
theorem backIds_some (x : Wd) (loc : ByteArray) (t i : Int) (w : World) (hW : WdAt w x) (hM : MaxAt w w.heap.size) (hi : (Lit.int .i64 i).wf = true) (he : worldE x = 0) (hz0 : x.d.zn ≠ 0) :
    Calls Tryz.prog 9 #[x.val, .string loc, .int .i64 t, .int .i64 i] w fun e w' => e = .returned (.bool true) ∧ Below w.heap.size w w' := by
  have HX := Lib.hid (fun W (h : Below (w.heap.size + 1) (w.alloc (Wobj x)) W) => boxW hW h)
  have K1 := Lib.hid (fun W (h : Below (w.heap.size + 1) (w.alloc (Wobj x)) W) => worldCk_any x W (HX.out W h).2.1 (hM.next (HX.out W h).1))
  have BB := Lib.hid (fun W (h : Below (w.heap.size + 1) (w.alloc (Wobj x)) W) => backBegun_any W (hM.next (HX.out W h).1))
  have hbb : Below (w.heap.size + 1) (w.alloc (Wobj x)) (w.alloc (Wobj x)) := Below.refl _ _
  have hzn : x.d.zs.length = x.d.zn := hW.1.2.1.1
  have hfew := data_few (rightW_of he).data
  have c1 := chooseN_bd i x.d.zn (by omega)
  obtain ⟨k, hk⟩ : ∃ k : Nat, chooseN i x.d.zn = (k : Int) := ⟨(chooseN i x.d.zn).toNat, by omega⟩
  have hkn : k < x.d.zn := by omega
  have CI : Hid (∀ w, Calls Tryz.prog 19 #[.int .i64 i, .int .i64 x.d.zn] w fun e w' => e = .returned (.int .i64 k) ∧ w = w') := Lib.hid fun w => by rw [← hk]; exact choose_any i x.d.zn w hi (by omega) (by omega)
  obtain ⟨b, o, z, e1, _, e2, _, e3⟩ := zones_get hW.1.2.1 hkn
  have HZ : Hid (∀ W, Below (w.heap.size + 1) (w.alloc (Wobj x)) W → W.cell? ⟨b, o + k * 2, none⟩ = some (.string z.name)) := Lib.hid fun W h => (e3 W (HX.out W h).1).1.1
  have P1 := Lib.hid (fun W (h : Below (w.heap.size + 1) (w.alloc (Wobj x)) W) => parseP_any x loc z.name t 2 W (HX.out W h).2.1 (hM.next (HX.out W h).1) (by decide))
  have ST := Lib.hid @sameTexts_any
  have HOP := Lib.hid (fun hE => own_parse (x := x) (loc := loc) (t := t) hE e2)
  unfold WdCells at HX
  have HA := Lib.hid e1
  unfold Wd.val at *
  rw [he] at K1
  rw [e1] at P1
  clear e1
  have hbb0 := hbb
  clear hW hM hi he c1 hk e3 hzn
  have hk1 : (k : Int) < (x.d.zn : Int) := by omega
  have hk0 : (0 : Int) ≤ (k : Int) := Int.natCast_nonneg _
  have g0 : ((x.d.zn : Int) == 0) = false := beq_eq_false_iff_ne.2 (by omega)
  obtain ⟨nm, hnm⟩ : ∃ v, v = z.name := ⟨_, rfl⟩
  rw [← hnm] at HZ P1 HOP
  clear hnm
  by_cases hE : wdsE x loc t 2 = 0
  · obtain ⟨q1, q2⟩ := HOP.out hE
    rw [q1, q2, hE] at P1
    clear q1 q2 hE HOP
    go_enter Tryz.func9, Tryz.ntmps9
    go_wp2_with fail
    refine (K1.out _ hbb).mono ?_
    rintro e w1 ⟨rfl, h1⟩
    have H1 := Lib.hid (boxW_more hbb h1)
    obtain ⟨_, _, c0, c1, c2, c3, c4⟩ := HX.out _ H1.out
    clear h1 hbb hbb0 K1
    go_wp2_with fail
    have hd := H1.out.drew
    have HD := Lib.hid hd
    have z0 := HZ.out _ hd
    clear hd c0 c1 c2 c3 c4
    obtain ⟨_, _, c0, c1, c2, c3, c4⟩ := HX.out _ HD.out
    rw [HA.out] at c1
    go_region_held3 (fun w' => w'.cell? ⟨w.heap.size, 1, none⟩ = some (.slice (some ⟨b, o, none⟩) x.d.zn x.d.zc) ∧ w'.cell? ⟨b, o + k * 2, none⟩ = some (.string nm) ∧ Below (w.heap.size + 1) (w.alloc (Wobj x)) w')
      (refine ⟨?_, ?_, ?_⟩ <;> (first | assumption | exact HD.out | exact Below.drew (by assumption) | go_keep))
      (first | (go_at_call 19; refine (CI.out _).mono ?_; rintro e w2 ⟨rfl, rfl⟩))
    all_goals
      clear c0 c1 c2 c3 c4 z0
      obtain ⟨_, _, c0, c1, c2, c3, c4⟩ := HX.out _ HD.out
      go_wp2_with fail
      refine (P1.out _ HD.out).mono ?_
      rintro e w3 ⟨v3, rfl, ho3, h3⟩
      have H3 := Lib.hid (boxW_more HD.out h3)
      have HO3 := Lib.hid ho3
      clear h3 ho3 c0 c1 c2 c3 c4
      go_wp2_with fail
      refine (BB.out _ H3.out).mono ?_
      rintro e w4 ⟨rfl, h4⟩
      have H4 := Lib.hid (boxW_more H3.out h4)
      have HA4 : Hid (Below w4.heap.size w4 (w4.alloc (.cells #[.string nm] 9))) := Lib.hid ((Below.refl w4.heap.size w4).alloc (Nat.le_refl _) _)
      have HO4 := Lib.hid (own_belowU (own_belowU HO3.out h4 (Nat.le_refl _)) HA4.out (Nat.le_refl _))
      have HR4 := Lib.hid (one_row w4 nm)
      clear h4 HO3
      go_wp2_with fail
      refine (ST.out _ _ _ _ _ _ _ HO4.out HR4.out (by simp)).mono ?_
      rintro e w5 ⟨rfl, h5⟩
      have HF := Lib.hid (HX.out _ (boxW_more (boxW_more H4.out HA4.out) h5)).1
      clear h5
      go_wp2
      go_ret
      exact ⟨rfl, HF.out⟩
  · obtain ⟨E, hEE⟩ : ∃ E, E = wdsE x loc t 2 := ⟨_, rfl⟩
    rw [← hEE] at P1 hE
    have g1 : (E != 0) = true := by simpa using hE
    clear hEE hE HOP ST
    go_enter Tryz.func9, Tryz.ntmps9
    go_wp2_with fail
    refine (K1.out _ hbb).mono ?_
    rintro e w1 ⟨rfl, h1⟩
    have H1 := Lib.hid (boxW_more hbb h1)
    obtain ⟨_, _, c0, c1, c2, c3, c4⟩ := HX.out _ H1.out
    clear h1 hbb hbb0 K1
    go_wp2_with fail
    have hd := H1.out.drew
    have HD := Lib.hid hd
    have z0 := HZ.out _ hd
    clear hd c0 c1 c2 c3 c4
    obtain ⟨_, _, c0, c1, c2, c3, c4⟩ := HX.out _ HD.out
    rw [HA.out] at c1
    go_region_held3 (fun w' => w'.cell? ⟨w.heap.size, 1, none⟩ = some (.slice (some ⟨b, o, none⟩) x.d.zn x.d.zc) ∧ w'.cell? ⟨b, o + k * 2, none⟩ = some (.string nm) ∧ Below (w.heap.size + 1) (w.alloc (Wobj x)) w')
      (refine ⟨?_, ?_, ?_⟩ <;> (first | assumption | exact HD.out | exact Below.drew (by assumption) | go_keep))
      (first | (go_at_call 19; refine (CI.out _).mono ?_; rintro e w2 ⟨rfl, rfl⟩))
    all_goals
      clear c0 c1 c2 c3 c4 z0
      obtain ⟨_, _, c0, c1, c2, c3, c4⟩ := HX.out _ HD.out
      go_wp2_with fail
      refine (P1.out _ HD.out).mono ?_
      rintro e w3 ⟨v3, rfl, _, h3⟩
      have H3 := Lib.hid (boxW_more HD.out h3)
      clear h3 c0 c1 c2 c3 c4
      go_wp2_with fail
      refine (BB.out _ H3.out).mono ?_
      rintro e w4 ⟨rfl, h4⟩
      have HF := Lib.hid (HX.out _ (boxW_more H3.out h4)).1
      clear h4
      go_wp2
      go_ret
      exact ⟨rfl, HF.out⟩
theorem backIds_walk (x : Wd) (loc : ByteArray) (t i : Int) (w : World) (hW : WdAt w x) (hM : MaxAt w w.heap.size) (hi : (Lit.int .i64 i).wf = true) :
    Calls Tryz.prog 9 #[x.val, .string loc, .int .i64 t, .int .i64 i] w fun e w' => e = .returned (.bool true) ∧ Below w.heap.size w w' := by
  by_cases he : worldE x = 0
  · by_cases hz : x.d.zn = 0
    · exact backIds_bad x loc t i w hW hM (.inr hz)
    · exact backIds_some x loc t i w hW hM hi he hz
  · exact backIds_bad x loc t i w hW hM (.inl he)
end Go.Proofs.YtbbbeldbhlehnaaGreatDoor
