/- Parts of a proof, laid together. -/
import Derived.BigQuiet
import Derived.Test.YtbbbeldbhlehnaaGreatMUsesTellsRow36
import Derived.Test.YtbbbeldbhlehnaaGreatMUsesTellsRow13
import Derived.Test.YtbbbeldbhlehnaaGreatMUsesTellsRow31
import Derived.Test.YtbbbeldbhlehnaaGreatMUsesTellsRow18
import Derived.Test.YtbbbeldbhlehnaaGreatMUsesTellsRow35
import Derived.Test.YtbbbeldbhlehnaaGreatMUsesTellsRow11
set_option linter.unusedSimpArgs false
set_option linter.unusedVariables false
/-! uses.asked, Of and Meta. -/
section
set_option linter.unusedVariables false
set_option linter.unusedSimpArgs false
namespace Gno
open Go
theorem metaU_no {l : List Us} {zone : ByteArray} {t : Int} (h : metaN l zone t < 0) : metaU l zone t = ⟨#[]⟩ := by
  unfold metaU
  cases l[(metaN l zone t).toNat]? with
  | none => rfl
  | some u => simp only; rw [if_pos h]
theorem metaU_at {l : List Us} {zone : ByteArray} {t : Int} {u : Us} (h : ¬ metaN l zone t < 0) (hu : l[(metaN l zone t).toNat]? = some u) : metaU l zone t = u.mt := by
  unfold metaU
  rw [hu]
  simp only
  rw [if_neg h]
theorem metaN_is (l : List Us) (zone : ByteArray) (t : Int) : -1 ≤ metaN l zone t ∧ metaN l zone t < l.length ∧ (¬ metaN l zone t < 0 → ∃ u, l[(metaN l zone t).toNat]? = some u) := by
  have h := fst_range (isUse zone t) l 0
  have h1 : -1 ≤ metaN l zone t := by unfold metaN; omega
  have h2 : metaN l zone t < l.length := by unfold metaN; omega
  exact ⟨h1, h2, fun h3 => ⟨l[(metaN l zone t).toNat]'(by omega), List.getElem?_eq_getElem _⟩⟩
end Gno
namespace Go.Proofs.YtbbbeldbhlehnaaGreat
open Go.RowKit Gno
theorem isUse_any (u : Us) (zone : ByteArray) (t : Int) (zb tb : Nat) (w : World) (hz : w.cell? ⟨zb, 0, none⟩ = some (.string zone)) (ht : w.cell? ⟨tb, 0, none⟩ = some (.int .i64 t)) :
    Calls Tryz.prog 49 #[.agg #[.string u.zone, .int .i64 u.fr, .int .i64 u.til, .string u.mt], .pointer (some ⟨zb, 0, none⟩), .pointer (some ⟨tb, 0, none⟩)] w fun e w' => e = .returned (.bool (isUse zone t u)) ∧ Below w.heap.size w w' := by
  have HB : Hid (Below w.heap.size w (w.alloc (.cells #[.string u.zone, .int .i64 u.fr, .int .i64 u.til, .string u.mt] 43))) := Lib.hid ((Below.refl _ _).alloc (Nat.le_refl _) _)
  have n0 : w.heap.size ≠ zb := World.new_ne w _ hz
  have n1 : w.heap.size ≠ tb := World.new_ne w _ ht
  have hz2 : (w.alloc (.cells #[.string u.zone, .int .i64 u.fr, .int .i64 u.til, .string u.mt] 43)).cell? ⟨zb, 0, none⟩ = some (.string zone) := by rw [World.cell?_alloc_past _ _ _ (lt_of_cell' hz)]; exact hz
  have ht2 : (w.alloc (.cells #[.string u.zone, .int .i64 u.fr, .int .i64 u.til, .string u.mt] 43)).cell? ⟨tb, 0, none⟩ = some (.int .i64 t) := by rw [World.cell?_alloc_past _ _ _ (lt_of_cell' ht)]; exact ht
  cases h1 : (u.zone.toList == zone.toList)
  · have e : isUse zone t u = false := by unfold isUse same; rw [h1]; rfl
    rw [e]
    clear e
    go_enter Tryz.func49, Tryz.ntmps49
    go_wp2
    go_ret
    exact ⟨rfl, HB.out⟩
  · cases h2 : decide (u.fr ≤ t)
    · have e : isUse zone t u = false := by unfold isUse; rw [h2]; simp
      rw [e]
      clear e
      go_enter Tryz.func49, Tryz.ntmps49
      go_wp2
      go_ret
      exact ⟨rfl, HB.out⟩
    · cases h3 : decide (t < u.til)
      · have e : isUse zone t u = false := by unfold isUse; rw [h3]; simp
        rw [e]
        clear e
        go_enter Tryz.func49, Tryz.ntmps49
        go_wp2
        go_ret
        exact ⟨rfl, HB.out⟩
      · have e : isUse zone t u = true := by unfold isUse same; rw [h1, h2, h3]; rfl
        rw [e]
        clear e
        go_enter Tryz.func49, Tryz.ntmps49
        go_wp2
        go_ret
        exact ⟨rfl, HB.out⟩
set_option maxRecDepth 100000 in
set_option maxHeartbeats 4000000 in
theorem usesOf_any (A : Option Addr) (n cap : Nat) (l : List Us) (zone : ByteArray) (t : Int) (w : World) (hU : UsesAt w w.heap.size A n l) :
    Calls Tryz.prog 17 #[.slice A n cap, .string zone, .int .i64 t] w fun e w' => e = .returned (.string (metaU l zone t)) ∧ Below w.heap.size w w' := by
  have hmf : ∀ (fn : Fn) (first cap : Array Value) (w : World), (Instr.makeFunc fn first cap).run Tryz.prog w = .ok (.func fn first cap) w := fun _ _ _ _ => rfl
  have hnl : n ≤ 9223372036854775807 := hU.2.1
  have hlen : l.length = n := hU.1
  obtain ⟨W1, hW1⟩ : ∃ W1, W1 = (w.alloc (.cells #[.string zone] 9)).alloc (.cells #[.int .i64 t] 3) := ⟨_, rfl⟩
  have hb1 : Below w.heap.size w W1 := by rw [hW1]; exact ((Below.refl _ _).alloc (Nat.le_refl _) _).alloc (by simp) _
  have k0 : W1.heap[w.heap.size]? = some (.cells #[.string zone] 9 (0, 0)) := by
    rw [hW1]; exact (Below.heap_alloc _ _ _ (by simp)).trans (World.alloc_heap_new w _)
  have k1 : W1.heap[w.heap.size + 1]? = some (.cells #[.int .i64 t] 3 (0, 0)) := by
    have h := World.alloc_heap_new (w.alloc (.cells #[.string zone] 9)) (.cells #[.int .i64 t] 3)
    rw [show (w.alloc (.cells #[.string zone] 9)).heap.size = w.heap.size + 1 by simp] at h
    rw [hW1]; exact h
  have hz1 : W1.heap.size = w.heap.size + 1 + 1 := by rw [hW1]; simp
  have C : Hid (Calls Tryz.prog 48 #[.slice A n cap, .func (.func 49) #[] #[.pointer (some ⟨w.heap.size, 0, none⟩), .pointer (some ⟨w.heap.size + 1, 0, none⟩)]] W1 fun e w' => e = .returned (.int .i64 (metaN l zone t)) ∧ Below W1.heap.size W1 w') := Lib.hid (
    indexUse_any 49 #[.pointer (some ⟨w.heap.size, 0, none⟩), .pointer (some ⟨w.heap.size + 1, 0, none⟩)] (enters_of Tryz.func49 (by kernel_rfl) rfl) (isUse zone t) A n cap l W1 (hU.next hb1) (fun W u hu hW => isUse_any u zone t w.heap.size (w.heap.size + 1) W
      ((hW.cell (p := ⟨w.heap.size, 0, none⟩) (by show w.heap.size < W1.heap.size; omega)).trans (cell_ofU k0 rfl)) ((hW.cell (p := ⟨w.heap.size + 1, 0, none⟩) (by show w.heap.size + 1 < W1.heap.size; omega)).trans (cell_ofU k1 rfl))))
  have HB1 := Lib.hid hb1
  have HG := Lib.hid (fun W (h : Below W1.heap.size W1 W) i (hi : i < n) => uses_get (hU.next (hb1.trans (h.mono hb1.size))) hi)
  obtain ⟨hm1, hm2, hm3⟩ := metaN_is l zone t
  have HN := Lib.hid (metaU_no (l := l) (zone := zone) (t := t))
  have HA := Lib.hid (fun u => metaU_at (l := l) (zone := zone) (t := t) (u := u))
  obtain ⟨K, hK⟩ : ∃ K, K = metaN l zone t := ⟨_, rfl⟩
  rw [← hK] at C hm1 hm2 hm3 HN HA
  clear hK hU hb1 k0 k1
  by_cases hk : K < 0
  · rw [HN.out hk]
    clear HN HA HG hm3
    subst hW1
    go_enter Tryz.func17, Tryz.ntmps17
    go_wp2_with (go_at_call 48; (with_reducible refine C.out.mono ?_); rintro e w4 ⟨rfl, hb4⟩)
    go_ret
    exact ⟨rfl, HB1.out.trans (hb4.mono HB1.out.size)⟩
  · obtain ⟨u, hu⟩ := hm3 hk
    rw [HA.out u hk hu]
    have hKn : K.toNat < n := by omega
    clear HN HA
    have HU := Lib.hid hu
    have HG2 : Hid (∀ W, Below W1.heap.size W1 W → ∃ b o, A = some ⟨b, o, none⟩ ∧ UsAt W b (o + K.toNat * 4) u) := Lib.hid (fun W h => by
      obtain ⟨b, o, q, e1, _, e2, _, _, e3⟩ := HG.out W h K.toNat hKn
      rw [HU.out] at e2
      injection e2 with e2
      subst e2
      exact ⟨b, o, e1, e3 W (Below.refl _ _)⟩)
    clear hu HG
    subst hW1
    go_enter Tryz.func17, Tryz.ntmps17
    go_wp2_with fail
    refine C.out.mono ?_
    rintro e w4 ⟨rfl, hb4⟩
    obtain ⟨b, o, rfl, c0, c1, c2, c3⟩ := HG2.out _ hb4
    have hfin := HB1.out.trans (hb4.mono HB1.out.size)
    have i1 : 0 ≤ K := by omega
    have i2 : K < (n : Int) := by omega
    clear hb4 C HG2 HB1
    go_wp2
    go_ret
    exact ⟨rfl, hfin⟩
theorem askedE_bad {d : Dt} {l : List Us} {t : Int} (h : usesE d l ≠ 0) : askedE d l t = usesE d l := by unfold askedE; rw [if_pos h]
theorem askedE_time {d : Dt} {l : List Us} {t : Int} (h : usesE d l = 0) (ht : t < 0 ∨ 1893456000 ≤ t) : askedE d l t = 3 := by unfold askedE; rw [if_neg (by simp [h]), if_pos ht]
theorem askedE_ok {d : Dt} {l : List Us} {t : Int} (h : usesE d l = 0) (ht : ¬ (t < 0 ∨ 1893456000 ≤ t)) : askedE d l t = 0 := by unfold askedE; rw [if_neg (by simp [h]), if_neg ht]
set_option maxRecDepth 100000 in
set_option maxHeartbeats 4000000 in
theorem asked_any (d : Dt) (A : Option Addr) (n cap : Nat) (l : List Us) (t : Int) (w : World) (hD : DataAt w w.heap.size d) (hM : MaxAt w w.heap.size) (hU : UsesAt w w.heap.size A n l) :
    Calls Tryz.prog 15 #[d.val, .slice A n cap, .int .i64 t] w fun e w' => e = .returned (.int .i64 (askedE d l t)) ∧ Below w.heap.size w w' := by
  have HB1 : Hid (Below w.heap.size w (w.alloc (Dobj d))) := Lib.hid ((Below.refl _ _).alloc (Nat.le_refl _) _)
  have C := Lib.hid (usesCk_any d A n cap l (w.alloc (Dobj d)) (hD.next HB1.out) (hM.next HB1.out) (hU.next HB1.out))
  clear hD hM hU
  unfold Dt.val at *
  by_cases he : usesE d l = 0
  · by_cases ht : t < 0 ∨ 1893456000 ≤ t
    · rw [askedE_time he ht]
      rw [he] at C
      clear he
      rcases ht with ht | ht
      · have g1 : decide (t < 0) = true := decide_eq_true ht
        go_enter Tryz.func15, Tryz.ntmps15
        go_wp2_with fail
        refine C.out.mono ?_
        rintro e w4 ⟨rfl, hb4⟩
        go_wp2
        go_ret
        exact ⟨rfl, HB1.out.trans (hb4.mono HB1.out.size)⟩
      · have g1 : decide (t < 0) = false := decide_eq_false (by omega)
        have g2 : decide (1893456000 ≤ t) = true := decide_eq_true ht
        go_enter Tryz.func15, Tryz.ntmps15
        go_wp2_with fail
        refine C.out.mono ?_
        rintro e w4 ⟨rfl, hb4⟩
        go_wp2
        go_ret
        exact ⟨rfl, HB1.out.trans (hb4.mono HB1.out.size)⟩
    · rw [askedE_ok he ht]
      rw [he] at C
      have g1 : decide (t < 0) = false := decide_eq_false (by omega)
      have g2 : decide (1893456000 ≤ t) = false := decide_eq_false (by omega)
      clear he ht
      go_enter Tryz.func15, Tryz.ntmps15
      go_wp2_with fail
      refine C.out.mono ?_
      rintro e w4 ⟨rfl, hb4⟩
      go_wp2
      go_ret
      exact ⟨rfl, HB1.out.trans (hb4.mono HB1.out.size)⟩
  · rw [askedE_bad he]
    obtain ⟨E, hE⟩ : ∃ E, E = usesE d l := ⟨_, rfl⟩
    rw [← hE] at C he ⊢
    have g1 : (E != 0) = true := by simpa using he
    clear he hE
    go_enter Tryz.func15, Tryz.ntmps15
    go_wp2_with fail
    refine C.out.mono ?_
    rintro e w4 ⟨rfl, hb4⟩
    go_wp2
    go_ret
    exact ⟨rfl, HB1.out.trans (hb4.mono HB1.out.size)⟩
end Go.Proofs.YtbbbeldbhlehnaaGreat
end
/-! The reference's UsesError and metaOf; Meta and MetaOf. -/
section
set_option linter.unusedVariables false
set_option linter.unusedSimpArgs false
namespace Gno
open Go
theorem metaE_asked {d : Dt} {l : List Us} {nm : ByteArray} {t : Int} (h : askedE d l t ≠ 0) : metaE d l nm t = askedE d l t ∧ metaT d l nm t = ⟨#[]⟩ := by
  have e : metaE d l nm t = askedE d l t := by unfold metaE; rw [if_pos h]
  exact ⟨e, by unfold metaT; rw [if_pos (by rw [e]; exact h)]⟩
theorem metaE_none {d : Dt} {l : List Us} {nm : ByteArray} {t : Int} (h : askedE d l t = 0) (h2 : leadN d nm < 0) : metaE d l nm t = 4 ∧ metaT d l nm t = ⟨#[]⟩ := by
  have e : metaE d l nm t = 4 := by unfold metaE; rw [if_neg (by simp [h]), if_pos h2]
  exact ⟨e, by unfold metaT; rw [if_pos (by rw [e]; decide)]⟩
theorem metaE_is {d : Dt} {l : List Us} {nm : ByteArray} {t : Int} {z : Zn} (h : askedE d l t = 0) (h2 : ¬ leadN d nm < 0) (hz : d.zs[(leadN d nm).toNat]? = some z) : metaE d l nm t = 0 ∧ metaT d l nm t = metaU l z.name t := by
  have e : metaE d l nm t = 0 := by unfold metaE; rw [if_neg (by simp [h]), if_neg h2]
  exact ⟨e, by unfold metaT; rw [if_neg (by simp [e]), hz]⟩
end Gno
namespace Go.Proofs.YtbbbeldbhlehnaaGreat
open Go.RowKit Gno
set_option maxRecDepth 100000 in
set_option maxHeartbeats 4000000 in
theorem usesErr_any (d : Dt) (A : Option Addr) (n cap : Nat) (l : List Us) (t : Int) (w : World) (hD : DataAt w w.heap.size d) (hU : UsesAt w w.heap.size A n l) :
    Calls Tryz.prog 20 #[d.val, .slice A n cap, .int .i64 t] w fun e w' => e = .returned (.int .i64 (askedE d l t)) ∧ Below w.heap.size w w' := by
  have HB1 : Hid (Below w.heap.size w (w.alloc (Dobj d))) := Lib.hid ((Below.refl _ _).alloc (Nat.le_refl _) _)
  have C := Lib.hid (usesR_any d A n cap l (w.alloc (Dobj d)) (hD.next HB1.out) (hU.next HB1.out))
  clear hD hU
  unfold Dt.val at *
  by_cases he : usesE d l = 0
  · by_cases ht : t < 0 ∨ 1893456000 ≤ t
    · rw [askedE_time he ht]
      rw [he] at C
      have IT : Hid (∀ w, Calls Tryz.prog 57 #[.int .i64 t] w fun e w' => e = .returned (.bool false) ∧ w = w') := Lib.hid (fun w => by
        have := isTime_any t w
        rwa [show timeOk t = false by unfold timeOk; rw [withinB_no]; omega] at this)
      clear he ht
      go_enter Tryz.func20, Tryz.ntmps20
      go_wp2_with fail
      refine C.out.mono ?_
      rintro e w4 ⟨rfl, hb4⟩
      go_wp2_with (go_at_call 57; refine (IT.out _).mono ?_; rintro e w' ⟨rfl, rfl⟩)
      go_ret
      exact ⟨rfl, HB1.out.trans (hb4.mono HB1.out.size)⟩
    · rw [askedE_ok he ht]
      rw [he] at C
      have IT : Hid (∀ w, Calls Tryz.prog 57 #[.int .i64 t] w fun e w' => e = .returned (.bool true) ∧ w = w') := Lib.hid (fun w => by
        have := isTime_any t w
        rwa [show timeOk t = true by unfold timeOk; rw [withinB_iff]; omega] at this)
      clear he ht
      go_enter Tryz.func20, Tryz.ntmps20
      go_wp2_with fail
      refine C.out.mono ?_
      rintro e w4 ⟨rfl, hb4⟩
      go_wp2_with (go_at_call 57; refine (IT.out _).mono ?_; rintro e w' ⟨rfl, rfl⟩)
      go_ret
      exact ⟨rfl, HB1.out.trans (hb4.mono HB1.out.size)⟩
  · rw [askedE_bad he]
    obtain ⟨E, hE⟩ : ∃ E, E = usesE d l := ⟨_, rfl⟩
    rw [← hE] at C he ⊢
    have g1 : (E != 0) = true := by simpa using he
    clear he hE
    go_enter Tryz.func20, Tryz.ntmps20
    go_wp2_with fail
    refine C.out.mono ?_
    rintro e w4 ⟨rfl, hb4⟩
    go_wp2
    go_ret
    exact ⟨rfl, HB1.out.trans (hb4.mono HB1.out.size)⟩
set_option maxRecDepth 100000 in
set_option maxHeartbeats 4000000 in
theorem metaOfR_any (A : Option Addr) (n cap : Nat) (l : List Us) (zone : ByteArray) (t : Int) (w : World) (hU : UsesAt w w.heap.size A n l) :
    Calls Tryz.prog 22 #[.slice A n cap, .string zone, .int .i64 t] w fun e w' => e = .returned (.string (metaU l zone t)) ∧ Below w.heap.size w w' := by
  have hn : n ≤ 9223372036854775807 := hU.2.1
  have HR := Lib.hid hU
  have HN := Lib.hid (metaU_no (l := l) (zone := zone) (t := t))
  have HA := Lib.hid (fun u => metaU_at (l := l) (zone := zone) (t := t) (u := u))
  clear hU
  go_enter Tryz.func22, Tryz.ntmps22
  go_wp2
  go_loopw [7] (fun b0 wr => ∃ i : Nat, i ≤ n ∧ b0 = .int .i64 i ∧ Hid (fst (isUse zone t) (l.drop i) i = metaN l zone t) ∧ Below w.heap.size w wr) (fun b0 _ => n - (intOf b0).toNat)
  case atStart => exact ⟨0, Nat.zero_le _, rfl, Lib.hid (by simp [metaN]), Below.refl _ _⟩
  case round =>
    obtain ⟨i, hi, rfl, hfd, hb⟩ := hrel
    by_cases hlt : i < n
    · obtain ⟨b, o, q, hA, hbB, hq, hqs, hqs2, hqq⟩ := uses_get HR.out hlt
      subst hA
      obtain ⟨e0, e1, e2, e3⟩ := hqq _ hb
      have FD := Lib.hid (fst_drop (p := isUse zone t) hq)
      have HQ := Lib.hid hq
      clear hq hqq
      cases h1 : (q.zone.toList == zone.toList)
      · have HX := Lib.hid ((FD.out.2 (by unfold isUse same; rw [h1]; rfl)).symm.trans hfd.out)
        clear hfd FD
        go_wp2
        go_roundw
        case rel => exact ⟨i + 1, by omega, by go_num, HX, hb⟩
        case measure => simp [intOf]; omega
      · cases h2 : decide (q.fr ≤ t)
        · have HX := Lib.hid ((FD.out.2 (by unfold isUse; rw [h2]; simp)).symm.trans hfd.out)
          clear hfd FD
          go_wp2
          go_roundw
          case rel => exact ⟨i + 1, by omega, by go_num, HX, hb⟩
          case measure => simp [intOf]; omega
        · cases h3 : decide (t < q.til)
          · have HX := Lib.hid ((FD.out.2 (by unfold isUse; rw [h3]; simp)).symm.trans hfd.out)
            clear hfd FD
            go_wp2
            go_roundw
            case rel => exact ⟨i + 1, by omega, by go_num, HX, hb⟩
            case measure => simp [intOf]; omega
          · have HX := Lib.hid ((FD.out.1 (by unfold isUse same; rw [h1, h2, h3]; rfl)).symm.trans hfd.out)
            have HM : Hid (metaU l zone t = q.mt) := Lib.hid (HA.out q (by rw [← HX.out]; omega) (by rw [← HX.out]; exact HQ.out))
            clear hfd FD HX
            go_wp2
            go_ret
            exact ⟨by rw [HM.out]; rfl, hb⟩
    · have HX := Lib.hid ((fst_end (p := isUse zone t) (by have := HR.out.1; omega)).symm.trans hfd.out)
      have HM : Hid (metaU l zone t = ⟨#[]⟩) := Lib.hid (HN.out (by rw [← HX.out]; omega))
      clear hfd HX
      go_wp2
      go_ret
      exact ⟨by rw [HM.out]; rfl, hb⟩
end Go.Proofs.YtbbbeldbhlehnaaGreat
end
/-! uses.Meta; the reference's MetaOf. -/
section
set_option linter.unusedVariables false
set_option linter.unusedSimpArgs false
namespace Go.Proofs.YtbbbeldbhlehnaaGreat
open Go.RowKit Gno
set_option maxRecDepth 100000 in
set_option maxHeartbeats 4000000 in
theorem usesMeta_any (d : Dt) (A : Option Addr) (n cap : Nat) (l : List Us) (nm : ByteArray) (t : Int) (w : World) (hD : DataAt w w.heap.size d) (hM : MaxAt w w.heap.size) (hU : UsesAt w w.heap.size A n l) :
    Calls Tryz.prog 6 #[d.val, .slice A n cap, .string nm, .int .i64 t] w fun e w' => e = .returned (.tuple #[.string (metaT d l nm t), .int .i64 (metaE d l nm t)]) ∧ Below w.heap.size w w' := by
  have HB1 : Hid (Below w.heap.size w (w.alloc (Dobj d))) := Lib.hid ((Below.refl _ _).alloc (Nat.le_refl _) _)
  have C := Lib.hid (asked_any d A n cap l t (w.alloc (Dobj d)) (hD.next HB1.out) (hM.next HB1.out) (hU.next HB1.out))
  have HX := Lib.hid (fun W (h : Below (w.heap.size + 1) (w.alloc (Dobj d)) W) => boxU hD hU h)
  have LD := Lib.hid (fun W (h : Below (w.heap.size + 1) (w.alloc (Dobj d)) W) => lead_any d nm W (HX.out W h).2.1)
  have OF := Lib.hid (fun zone W (h : Below (w.heap.size + 1) (w.alloc (Dobj d)) W) => usesOf_any A n cap l zone t W (HX.out W h).2.2.1)
  have hzn : d.zs.length = d.zn := hD.2.1.1
  have HZ := Lib.hid hD.2.1
  have hlr := leadT_range d (d.ls.length + 1) nm
  have HLR : Hid (-1 ≤ leadN d nm ∧ leadN d nm < d.zs.length) := Lib.hid hlr
  clear hD hM hU hlr
  unfold Dt.val at *
  by_cases ha : askedE d l t = 0
  · by_cases hl : leadN d nm < 0
    · have HE := Lib.hid (metaE_none ha hl)
      rw [HE.out.1, HE.out.2]
      have g1 : decide (leadN d nm < 0) = true := decide_eq_true hl
      rw [ha] at C
      obtain ⟨K, hK⟩ : ∃ K, K = leadN d nm := ⟨_, rfl⟩
      rw [← hK] at LD g1
      clear ha hl HE OF HZ HLR hK hzn
      go_enter Tryz.func6, Tryz.ntmps6
      go_wp2_with fail
      refine C.out.mono ?_
      rintro e w4 ⟨rfl, hb4⟩
      have hb5 : Below (w.heap.size + 1) (w.alloc (Dobj d)) w4 := hb4.mono (by simp)
      obtain ⟨_, _, _, c0, c1, c2⟩ := HX.out _ hb5
      have HB5 := Lib.hid hb5
      clear hb4 hb5
      go_wp2_with fail
      refine (LD.out _ HB5.out).mono ?_
      rintro e w5 ⟨rfl, hb6⟩
      have hfin := (HX.out _ (box_more HB5.out hb6)).1
      clear hb6 c0 c1 c2
      go_wp2
      go_ret2
      exact ⟨rfl, hfin⟩
    · obtain ⟨K, hK⟩ : ∃ K, K = leadN d nm := ⟨_, rfl⟩
      have hk1 : 0 ≤ K := by omega
      have hk2 : K < (d.zn : Int) := by have := HLR.out; omega
      have hkn : K.toNat < d.zn := by omega
      obtain ⟨b, o, z, hA, hbB, hq, hq1, hq2⟩ := zones_get HZ.out hkn
      have HE := Lib.hid (metaE_is (l := l) (t := t) (nm := nm) ha hl (by rw [← hK]; exact hq))
      rw [HE.out.1, HE.out.2]
      have g1 : decide (leadN d nm < 0) = false := decide_eq_false hl
      rw [ha] at C
      rw [← hK] at LD g1
      have HZC : Hid (∀ W, Below (w.heap.size + 1) (w.alloc (Dobj d)) W → W.cell? ⟨b, o + K.toNat * 2, none⟩ = some (.string z.name)) := Lib.hid (fun W h => (hq2 W (HX.out W h).1).1.1)
      have OFZ := Lib.hid (OF.out z.name)
      have HA := Lib.hid hA
      obtain ⟨M, hM9⟩ : ∃ M, M = metaU l z.name t := ⟨_, rfl⟩
      rw [← hM9] at OFZ ⊢
      clear ha hl HE OF HZ HLR hK hzn hq hq1 hq2 hbB hA hM9 hkn
      go_enter Tryz.func6, Tryz.ntmps6
      go_wp2_with fail
      refine C.out.mono ?_
      rintro e w4 ⟨rfl, hb4⟩
      have hb5 : Below (w.heap.size + 1) (w.alloc (Dobj d)) w4 := hb4.mono (by simp)
      obtain ⟨_, _, _, c0, c1, c2⟩ := HX.out _ hb5
      have HB5 := Lib.hid hb5
      clear hb4 hb5
      go_wp2_with fail
      refine (LD.out _ HB5.out).mono ?_
      rintro e w5 ⟨rfl, hb6⟩
      have HB6 := Lib.hid (box_more HB5.out hb6)
      clear hb6 c0 c1 c2
      obtain ⟨_, _, _, c0, c1, c2⟩ := HX.out _ HB6.out
      rw [HA.out] at c1
      have z0 := HZC.out _ HB6.out
      go_wp2_with fail
      refine (OFZ.out _ HB6.out).mono ?_
      rintro e w6 ⟨rfl, hb7⟩
      have hfin := (HX.out _ (box_more HB6.out hb7)).1
      clear hb7 c0 c1 c2 z0
      go_wp2
      go_ret2
      exact ⟨rfl, hfin⟩
  · have HE := Lib.hid (metaE_asked (nm := nm) ha)
    rw [HE.out.1, HE.out.2]
    obtain ⟨E, hE⟩ : ∃ E, E = askedE d l t := ⟨_, rfl⟩
    rw [← hE] at C ha ⊢
    have g1 : (E != 0) = true := by simpa using ha
    clear ha hE HE LD OF HZ HLR hzn
    go_enter Tryz.func6, Tryz.ntmps6
    go_wp2_with fail
    refine C.out.mono ?_
    rintro e w4 ⟨rfl, hb4⟩
    have hfin := (HX.out _ (hb4.mono (by simp))).1
    clear hb4
    go_wp2
    go_ret2
    exact ⟨rfl, hfin⟩
set_option maxRecDepth 100000 in
set_option maxHeartbeats 4000000 in
theorem metaR_any (d : Dt) (A : Option Addr) (n cap : Nat) (l : List Us) (nm : ByteArray) (t : Int) (w : World) (hD : DataAt w w.heap.size d) (hU : UsesAt w w.heap.size A n l) :
    Calls Tryz.prog 8 #[d.val, .slice A n cap, .string nm, .int .i64 t] w fun e w' => e = .returned (.tuple #[.string (metaT d l nm t), .int .i64 (metaE d l nm t)]) ∧ Below w.heap.size w w' := by
  have HB1 : Hid (Below w.heap.size w (w.alloc (Dobj d))) := Lib.hid ((Below.refl _ _).alloc (Nat.le_refl _) _)
  have C := Lib.hid (usesErr_any d A n cap l t (w.alloc (Dobj d)) (hD.next HB1.out) (hU.next HB1.out))
  have HX := Lib.hid (fun W (h : Below (w.heap.size + 1) (w.alloc (Dobj d)) W) => boxU hD hU h)
  have LD := Lib.hid (fun W (h : Below (w.heap.size + 1) (w.alloc (Dobj d)) W) => follow_any d nm W (HX.out W h).2.1)
  have OF := Lib.hid (fun zone W (h : Below (w.heap.size + 1) (w.alloc (Dobj d)) W) => metaOfR_any A n cap l zone t W (HX.out W h).2.2.1)
  have hzn : d.zs.length = d.zn := hD.2.1.1
  have HZ := Lib.hid hD.2.1
  have hlr := leadT_range d (d.ls.length + 1) nm
  have HLR : Hid (-1 ≤ leadN d nm ∧ leadN d nm < d.zs.length) := Lib.hid hlr
  clear hD hU hlr
  unfold Dt.val at *
  by_cases ha : askedE d l t = 0
  · by_cases hl : leadN d nm < 0
    · have HE := Lib.hid (metaE_none ha hl)
      rw [HE.out.1, HE.out.2]
      have g1 : decide (leadN d nm < 0) = true := decide_eq_true hl
      rw [ha] at C
      obtain ⟨K, hK⟩ : ∃ K, K = leadN d nm := ⟨_, rfl⟩
      rw [← hK] at LD g1
      clear ha hl HE OF HZ HLR hK hzn
      go_enter Tryz.func8, Tryz.ntmps8
      go_wp2_with fail
      refine C.out.mono ?_
      rintro e w4 ⟨rfl, hb4⟩
      have hb5 : Below (w.heap.size + 1) (w.alloc (Dobj d)) w4 := hb4.mono (by simp)
      obtain ⟨_, _, _, c0, c1, c2⟩ := HX.out _ hb5
      have HB5 := Lib.hid hb5
      clear hb4 hb5
      go_wp2_with fail
      refine (LD.out _ HB5.out).mono ?_
      rintro e w5 ⟨rfl, hb6⟩
      have hfin := (HX.out _ (box_more HB5.out hb6)).1
      clear hb6 c0 c1 c2
      go_wp2
      go_ret2
      exact ⟨rfl, hfin⟩
    · obtain ⟨K, hK⟩ : ∃ K, K = leadN d nm := ⟨_, rfl⟩
      have hk1 : 0 ≤ K := by omega
      have hk2 : K < (d.zn : Int) := by have := HLR.out; omega
      have hkn : K.toNat < d.zn := by omega
      obtain ⟨b, o, z, hA, hbB, hq, hq1, hq2⟩ := zones_get HZ.out hkn
      have HE := Lib.hid (metaE_is (l := l) (t := t) (nm := nm) ha hl (by rw [← hK]; exact hq))
      rw [HE.out.1, HE.out.2]
      have g1 : decide (leadN d nm < 0) = false := decide_eq_false hl
      rw [ha] at C
      rw [← hK] at LD g1
      have HZC : Hid (∀ W, Below (w.heap.size + 1) (w.alloc (Dobj d)) W → W.cell? ⟨b, o + K.toNat * 2, none⟩ = some (.string z.name)) := Lib.hid (fun W h => (hq2 W (HX.out W h).1).1.1)
      have OFZ := Lib.hid (OF.out z.name)
      have HA := Lib.hid hA
      obtain ⟨M, hM9⟩ : ∃ M, M = metaU l z.name t := ⟨_, rfl⟩
      rw [← hM9] at OFZ ⊢
      clear ha hl HE OF HZ HLR hK hzn hq hq1 hq2 hbB hA hM9 hkn
      go_enter Tryz.func8, Tryz.ntmps8
      go_wp2_with fail
      refine C.out.mono ?_
      rintro e w4 ⟨rfl, hb4⟩
      have hb5 : Below (w.heap.size + 1) (w.alloc (Dobj d)) w4 := hb4.mono (by simp)
      obtain ⟨_, _, _, c0, c1, c2⟩ := HX.out _ hb5
      have HB5 := Lib.hid hb5
      clear hb4 hb5
      go_wp2_with fail
      refine (LD.out _ HB5.out).mono ?_
      rintro e w5 ⟨rfl, hb6⟩
      have HB6 := Lib.hid (box_more HB5.out hb6)
      clear hb6 c0 c1 c2
      obtain ⟨_, _, _, c0, c1, c2⟩ := HX.out _ HB6.out
      rw [HA.out] at c1
      have z0 := HZC.out _ HB6.out
      go_wp2_with fail
      refine (OFZ.out _ HB6.out).mono ?_
      rintro e w6 ⟨rfl, hb7⟩
      have hfin := (HX.out _ (box_more HB6.out hb7)).1
      clear hb7 c0 c1 c2 z0
      go_wp2
      go_ret2
      exact ⟨rfl, hfin⟩
  · have HE := Lib.hid (metaE_asked (nm := nm) ha)
    rw [HE.out.1, HE.out.2]
    obtain ⟨E, hE⟩ : ∃ E, E = askedE d l t := ⟨_, rfl⟩
    rw [← hE] at C ha ⊢
    have g1 : (E != 0) = true := by simpa using ha
    clear ha hE HE LD OF HZ HLR hzn
    go_enter Tryz.func8, Tryz.ntmps8
    go_wp2_with fail
    refine C.out.mono ?_
    rintro e w4 ⟨rfl, hb4⟩
    have hfin := (HX.out _ (hb4.mono (by simp))).1
    clear hb4
    go_wp2
    go_ret2
    exact ⟨rfl, hfin⟩
end Go.Proofs.YtbbbeldbhlehnaaGreat
end
/-! uses.Zones. -/
section
set_option linter.unusedVariables false
set_option linter.unusedSimpArgs false
namespace Gno
open Go
noncomputable def zonesR (d : Dt) (l : List Us) (mt : ByteArray) (t : Int) : List ByteArray := if zonesE d l mt t = 0 then zonesS d l mt t else []
def zonesUp (d : Dt) (l : List Us) (mt : ByteArray) (t : Int) (i : Nat) : List ByteArray := ((d.zs.take i).filter (zoneHas l mt t)).map (·.name)
theorem zonesUp_end {d : Dt} {l : List Us} {mt : ByteArray} {t : Int} {i : Nat} (h : d.zs.length ≤ i) : zonesUp d l mt t i = zonesL d l mt t := by unfold zonesUp zonesL; rw [List.take_of_length_le h]
theorem zonesUp_step {d : Dt} {l : List Us} {mt : ByteArray} {t : Int} {i : Nat} {z : Zn} (h : d.zs[i]? = some z) : zonesUp d l mt t (i + 1) = if same (metaU l z.name t) mt = true then zonesUp d l mt t i ++ [z.name] else zonesUp d l mt t i := by
  unfold zonesUp
  rw [filt_step h]
  show List.map _ (if same (metaU l z.name t) mt = true then _ else _) = _
  split
  · rw [List.map_append]; rfl
  · rfl
theorem zonesUp_len {d : Dt} {l : List Us} {mt : ByteArray} {t : Int} (i : Nat) : (zonesUp d l mt t i).length ≤ i := by
  unfold zonesUp
  rw [List.length_map]
  refine Nat.le_trans (List.length_filter_le _ _) ?_
  rw [List.length_take]; omega
theorem zonesE_asked {d : Dt} {l : List Us} {mt : ByteArray} {t : Int} (h : askedE d l t ≠ 0) : zonesE d l mt t = askedE d l t ∧ zonesR d l mt t = [] := by
  have e : zonesE d l mt t = askedE d l t := by unfold zonesE; rw [if_pos h]
  exact ⟨e, by unfold zonesR; rw [if_neg (by rw [e]; exact h)]⟩
theorem zonesE_name {d : Dt} {l : List Us} {mt : ByteArray} {t : Int} (h : askedE d l t = 0) (h2 : nameOk mt = false) : zonesE d l mt t = 5 ∧ zonesR d l mt t = [] := by
  have e : zonesE d l mt t = 5 := by unfold zonesE; rw [if_neg (by simp [h]), if_neg (by simp [h2])]
  exact ⟨e, by unfold zonesR; rw [if_neg (by rw [e]; decide)]⟩
theorem zonesE_is {d : Dt} {l : List Us} {mt : ByteArray} {t : Int} (h : askedE d l t = 0) (h2 : nameOk mt = true) : zonesE d l mt t = 0 ∧ zonesR d l mt t = zonesS d l mt t := by
  have e : zonesE d l mt t = 0 := by unfold zonesE; rw [if_neg (by simp [h]), if_pos h2]
  exact ⟨e, by unfold zonesR; rw [if_pos e]⟩
theorem asked_few {d : Dt} {l : List Us} {t : Int} (h : askedE d l t = 0) : d.zn ≤ 5 := by
  unfold askedE at h
  have e : usesE d l = 0 := by
    by_cases e : usesE d l = 0
    · exact e
    · rw [if_pos e] at h; exact absurd h e
  have e0 : dataE d = 0 := by
    unfold usesE at e
    by_cases q : dataE d = 0
    · exact q
    · rw [if_pos q] at e; exact e
  cases hm : manyD d
  · exact (manyD_le hm).2.1
  · exfalso
    unfold dataE at e0
    rw [if_pos hm] at e0
    exact absurd e0 (by decide)
end Gno
namespace Go.Proofs.YtbbbeldbhlehnaaGreat
open Go.RowKit Gno
theorem own_belowU {w W : World} {B K sz n : Nat} {e : TypeId} {v : Value} {xs : List Value} (h : w.ownsRow B e sz v n xs) (hb : Below K w W) (hK : w.heap.size ≤ K) : W.ownsRow B e sz v n xs := by
  refine ⟨h.1, ?_⟩
  rcases h.2 with h | ⟨g, cap, cur, h1, h2, h3, h4⟩
  · exact .inl h
  · exact .inr ⟨g, cap, cur, h1, h2, (hb.block g (by have := (Array.getElem?_eq_some_iff.1 h3).1; omega)).trans h3, h4⟩
set_option maxRecDepth 100000 in
set_option maxHeartbeats 8000000 in
theorem usesZones_any (d : Dt) (A : Option Addr) (n cap : Nat) (l : List Us) (mt : ByteArray) (t : Int) (w : World) (hD : DataAt w w.heap.size d) (hM : MaxAt w w.heap.size) (hU : UsesAt w w.heap.size A n l) (hmt : mt.size ≤ maxLen) :
    Calls Tryz.prog 7 #[d.val, .slice A n cap, .string mt, .int .i64 t] w fun e w' => ∃ v, e = .returned (.tuple #[v, .int .i64 (zonesE d l mt t)]) ∧ w'.ownsRow (w.heap.size + 1) 9 1 v (zonesR d l mt t).length (strs (zonesR d l mt t)) ∧ Below w.heap.size w w' := by
  have HB1 : Hid (Below w.heap.size w (w.alloc (Dobj d))) := Lib.hid ((Below.refl _ _).alloc (Nat.le_refl _) _)
  have C := Lib.hid (asked_any d A n cap l t (w.alloc (Dobj d)) (hD.next HB1.out) (hM.next HB1.out) (hU.next HB1.out))
  have HX := Lib.hid (fun W (h : Below (w.heap.size + 1) (w.alloc (Dobj d)) W) => boxU hD hU h)
  have OF := Lib.hid (fun zone W (h : Below (w.heap.size + 1) (w.alloc (Dobj d)) W) => usesOf_any A n cap l zone t W (HX.out W h).2.2.1)
  have NM := Lib.hid (fun W => name_any mt W hmt)
  have hzn : d.zs.length = d.zn := hD.2.1.1
  have HZG := Lib.hid (fun i (hi : i < d.zn) => zones_get hD.2.1 hi)
  clear hD hM hU hmt
  unfold Dt.val at *
  by_cases ha : askedE d l t = 0
  · cases hnm : nameOk mt
    · have HE := Lib.hid (zonesE_name ha hnm)
      rw [HE.out.1, HE.out.2]
      rw [hnm] at NM
      rw [ha] at C
      clear ha hnm HE OF HZG hzn
      go_enter Tryz.func7, Tryz.ntmps7
      go_wp2_with fail
      refine C.out.mono ?_
      rintro e w4 ⟨rfl, hb4⟩
      have HB5 : Hid (Below (w.heap.size + 1) (w.alloc (Dobj d)) w4) := Lib.hid (hb4.mono (by simp))
      clear hb4
      go_wp2_with fail
      refine (NM.out _).mono ?_
      rintro e w5 ⟨rfl, hb6⟩
      have hfin := (HX.out _ (box_more HB5.out hb6)).1
      clear hb6
      go_wp2
      go_ret2
      exact ⟨_, rfl, World.ownsRow_nil _ _ _ _, hfin⟩
    · have HE := Lib.hid (zonesE_is ha hnm)
      rw [HE.out.1, HE.out.2]
      have hfew := asked_few ha
      rw [hnm] at NM
      rw [ha] at C
      have HZ : Hid (∀ i, i < d.zn → ∃ b o z, d.zA = some ⟨b, o, none⟩ ∧ d.zs[i]? = some z ∧ ∀ W, Below (w.heap.size + 1) (w.alloc (Dobj d)) W → (W.cell? ⟨b, o + i * 2, none⟩ = some (.string z.name) ∧ W.cell? ⟨b, o + i * 2 + 1, none⟩ = some (.slice z.A z.n z.cap))) := Lib.hid (fun i hi => by
        obtain ⟨b, o, z, e1, _, e2, _, e3⟩ := HZG.out i hi
        exact ⟨b, o, z, e1, e2, fun W h => (e3 W (HX.out W h).1).1⟩)
      have HST := Lib.hid (fun i z (h : d.zs[i]? = some z) => zonesUp_step (l := l) (mt := mt) (t := t) h)
      have HUL := Lib.hid (fun i => zonesUp_len (d := d) (l := l) (mt := mt) (t := t) i)
      have HEND : Hid (zonesUp d l mt t d.zn = zonesL d l mt t) := Lib.hid (zonesUp_end (by omega))
      clear ha hnm HE HZG hzn
      go_enter Tryz.func7, Tryz.ntmps7
      go_wp2_with fail
      refine C.out.mono ?_
      rintro e w4 ⟨rfl, hb4⟩
      have HB5 : Hid (Below (w.heap.size + 1) (w.alloc (Dobj d)) w4) := Lib.hid (hb4.mono (by simp))
      clear hb4
      go_wp2_with fail
      refine (NM.out _).mono ?_
      rintro e w5 ⟨rfl, hb6⟩
      have HB6 := Lib.hid (box_more HB5.out hb6)
      clear hb6
      obtain ⟨_, _, _, c0, c1, c2⟩ := HX.out _ HB6.out
      go_wp2_with fail
      clear c0 c1 c2
      go_loopw [11, 27] (fun b11 b27 wr => ∃ (i : Nat) (v : Value), i ≤ d.zn ∧ b27 = .int .i64 i ∧ v = b11 ∧ Hid (wr.ownsRow (w.heap.size + 1) 9 1 v (zonesUp d l mt t i).length (strs (zonesUp d l mt t i))) ∧ Hid (Below (w.heap.size + 1) (w.alloc (Dobj d)) wr)) (fun _ b27 _ => d.zn - (intOf b27).toNat)
      case atStart => exact ⟨0, _, Nat.zero_le _, rfl, rfl, Lib.hid (World.ownsRow_nil _ _ _ _), HB6⟩
      case round =>
        clear HB6 HB5
        obtain ⟨i, v, hi, rfl, rfl, hO, hb⟩ := hrel
        by_cases hit : i < d.zn
        · obtain ⟨b, o, z, hA, hz, hzc⟩ := HZ.out i hit
          obtain ⟨z0, z1⟩ := hzc _ hb.out
          have hws : w.heap.size + 1 ≤ wr.heap.size := by have := hb.out.size; simpa using this
          have HS := Lib.hid (HST.out i z hz)
          have hul := HUL.out i
          have HBA : Hid (Below (w.heap.size + 1) (w.alloc (Dobj d)) (wr.alloc (.cells #[.string z.name, .slice z.A z.n z.cap] 41))) := Lib.hid (hb.out.alloc (by simpa using hws) _)
          have hOF := OF.out z.name _ HBA.out
          obtain ⟨M, hM⟩ : ∃ M, M = metaU l z.name t := ⟨_, rfl⟩
          rw [← hM] at hOF HS
          have HOF := Lib.hid hOF
          obtain ⟨L, hL⟩ : ∃ L, L = zonesUp d l mt t i := ⟨_, rfl⟩
          rw [← hL] at hO hul HS
          have HO := Lib.hid (hO.out.alloc (.cells #[.string z.name, .slice z.A z.n z.cap] 41))
          have HK : Hid (∀ W, Below (wr.alloc (.cells #[.string z.name, .slice z.A z.n z.cap] 41)).heap.size (wr.alloc (.cells #[.string z.name, .slice z.A z.n z.cap] 41)) W → W.cell? ⟨wr.heap.size, 0, none⟩ = some (.string z.name)) := Lib.hid (fun W h => cell_ofU ((h.block wr.heap.size (by simp)).trans (World.alloc_heap_new wr _)) rfl)
          rw [hA]
          clear hM hL hO hz hzc hOF
          go_wp2_with fail
          refine HOF.out.mono ?_
          rintro e w6 ⟨rfl, hb7⟩
          have HB7 := Lib.hid (box_more HBA.out hb7)
          have HO7 := Lib.hid (own_belowU HO.out hb7 (Nat.le_refl _))
          have k0 := HK.out _ hb7
          have hs7 : w.heap.size + 1 ≤ w6.heap.size := by have := HB7.out.size; simpa using this
          clear hb7 HOF HK HO HBA z0 z1
          cases hm : (M.toList == mt.toList)
          · have HR : Hid (w6.ownsRow (w.heap.size + 1) 9 1 v (zonesUp d l mt t (i + 1)).length (strs (zonesUp d l mt t (i + 1)))) := Lib.hid (by
              rw [HS.out, if_neg (by unfold same; rw [hm]; decide)]
              exact HO7.out)
            go_wp2
            go_roundw
            case rel => exact ⟨i + 1, v, by omega, by go_num, rfl, HR, HB7⟩
            case measure => simp [intOf]; omega
          · go_wp2_with (at_builtin; go_must (refine wpList_app HB7.out hs7 _ 9 rfl _ _ 31 rfl Tryz.underlying31 _ 1 16 infoStr rfl (by decide) _ L.length _ rfl HO7.out 1 rfl rfl (by simp [Value.oneCell']) (by unfold maxLen; omega) (by omega) ?_); intro v' w8 hown8 hb8 _)
            have HR : Hid (w8.ownsRow (w.heap.size + 1) 9 1 v' (zonesUp d l mt t (i + 1)).length (strs (zonesUp d l mt t (i + 1)))) := Lib.hid (by
              rw [HS.out, if_pos (by unfold same; exact hm), List.length_append]
              simpa [strs] using hown8)
            have HB8 := Lib.hid hb8
            clear hown8 hb8
            try go_wp2
            go_roundw
            case rel => exact ⟨i + 1, v', by omega, by go_num, rfl, HR, HB8⟩
            case measure => simp [intOf]; omega
        · have hin : i = d.zn := by omega
          have HR : Hid (wr.ownsRow (w.heap.size + 1) 9 1 v (zonesL d l mt t).length (strs (zonesL d l mt t))) := Lib.hid (by rw [← HEND.out, ← hin]; exact hO.out)
          have hzl : (zonesL d l mt t).length ≤ 5 := by rw [← HEND.out]; have := HUL.out d.zn; omega
          have SO := Lib.hid (sort_ownS HR.out (by omega))
          have HOL := Lib.hid HR.out.lt
          have hws : w.heap.size + 1 ≤ wr.heap.size := by have := hb.out.size; simpa using this
          clear hin
          go_wp2_with fail
          refine SO.out.mono ?_
          rintro e w6 ⟨rfl, hs6, hg6⟩
          have HBF := Lib.hid (hb.out.grown hg6 hws (fun k hk => (HOL.out k hk).1))
          have hfin := (HX.out _ HBF.out).1
          have HS6 : Hid (w6.ownsRow (w.heap.size + 1) 9 1 v (zonesS d l mt t).length (strs (zonesS d l mt t))) := Lib.hid (by unfold zonesS; rw [sortB_len]; exact hs6)
          clear hs6 hg6
          go_wp2
          go_ret2
          exact ⟨v, rfl, HS6.out, hfin⟩
  · have HE := Lib.hid (zonesE_asked (mt := mt) ha)
    rw [HE.out.1, HE.out.2]
    obtain ⟨E, hE⟩ : ∃ E, E = askedE d l t := ⟨_, rfl⟩
    rw [← hE] at C ha ⊢
    have g1 : (E != 0) = true := by simpa using ha
    clear ha hE HE OF HZG hzn NM
    go_enter Tryz.func7, Tryz.ntmps7
    go_wp2_with fail
    refine C.out.mono ?_
    rintro e w4 ⟨rfl, hb4⟩
    have hfin := (HX.out _ (hb4.mono (by simp))).1
    clear hb4
    go_wp2
    go_ret2
    exact ⟨_, rfl, World.ownsRow_nil _ _ _ _, hfin⟩
end Go.Proofs.YtbbbeldbhlehnaaGreat
end
/-! The reference's sorted. -/
section
set_option linter.unusedVariables false
set_option linter.unusedSimpArgs false
namespace Gno
open Go
theorem less_cases (e x : ByteArray) : (lessB x e = true ∧ Op.bytesLess e.toList x.toList = false ∧ (e.toList == x.toList) = false) ∨ (lessB x e = false ∧ (Op.bytesLess e.toList x.toList = true ∨ Op.bytesLess e.toList x.toList = false ∧ (e.toList == x.toList) = true)) := by
  rcases less_tri x e with h | h | h
  · refine .inl ⟨h, bl_asymm _ _ h, ?_⟩
    cases q : (e.toList == x.toList)
    · rfl
    · have := (same_iff e x).1 q
      rw [this, less_irrefl] at h
      cases h
  · subst h
    exact .inr ⟨less_irrefl _, .inr ⟨less_irrefl _, (same_iff _ _).2 rfl⟩⟩
  · exact .inr ⟨bl_asymm _ _ h, .inl h⟩
end Gno
namespace Go.Proofs.YtbbbeldbhlehnaaGreat
open Go.RowKit Gno
theorem strs_set (l : List ByteArray) (i : Nat) (x : ByteArray) : strs (l.set i x) = (strs l).set i (.string x) := by unfold strs; rw [List.map_set]
theorem strs_at {l : List ByteArray} {i : Nat} {x : ByteArray} (h : l[i]? = some x) : (strs l)[i]? = some (.string x) := by unfold strs; simp [h]
theorem own_setCellU {w : World} {B : Nat} {e : TypeId} {sz g n cap : Nat} {xs : List Value} (h : w.ownsRow B e sz (.slice (some ⟨g, 0, none⟩) n cap) n xs) (j : Nat) (hj : j < n * sz) (u : Value) :
    (w.setCell ⟨g, j, none⟩ u).ownsRow B e sz (.slice (some ⟨g, 0, none⟩) n cap) n (xs.set j u) := by
  obtain ⟨cur, hb, hg, hnc, hcm, hcs, ht⟩ := own_blockR h
  refine ⟨by rw [List.length_set]; exact h.1, .inr ⟨g, cap, cur.setIfInBounds j u, rfl, hb, ?_, hnc, hcm, by simpa using hcs, ?_⟩⟩
  · have hlt := (Array.getElem?_eq_some_iff.1 hg).1
    have h' : w.heap[g] = .cells cur e (0, 0) := by simpa [Array.getElem?_eq_getElem hlt] using hg
    show (w.heap.modify g _)[g]? = _
    rw [Array.getElem?_eq_getElem (by simpa using hlt), Array.getElem_modify_self, h']
    rfl
  · rw [Array.toList_setIfInBounds, List.take_set, ht]
theorem own_cellU {w : World} {B : Nat} {e : TypeId} {sz g n cap : Nat} {xs : List Value} (h : w.ownsRow B e sz (.slice (some ⟨g, 0, none⟩) n cap) n xs) {j : Nat} {u : Value} (hj : xs[j]? = some u) : w.cell? ⟨g, j, none⟩ = some u := by
  have := h.cells (g := g) rfl j u hj
  rwa [addP, Nat.zero_add] at this
theorem own_freeU {w : World} {B : Nat} {e : TypeId} {sz g n cap : Nat} {xs : List Value} (h : w.ownsRow B e sz (.slice (some ⟨g, 0, none⟩) n cap) n xs) (j : Nat) : w.frozen? ⟨g, j, none⟩ = false := by
  obtain ⟨cur, _, hg, _⟩ := own_blockR h
  simp [World.frozen?, hg]
theorem own_formU {w : World} {B : Nat} {e : TypeId} {sz n : Nat} {v : Value} {xs : List Value} (h : w.ownsRow B e sz v n xs) : ∃ A cap, v = .slice A n cap ∧ (0 < n → ∃ g, A = some ⟨g, 0, none⟩) := by
  rcases h.2 with ⟨rfl, rfl⟩ | ⟨g, cap, cur, rfl, _⟩
  · exact ⟨none, 0, rfl, fun h => absurd h (by omega)⟩
  · exact ⟨_, cap, rfl, fun _ => ⟨g, rfl⟩⟩
theorem drewN_ownU {w : World} {B : Nat} {e : TypeId} {sz n q : Nat} {v : Value} {xs : List Value} (h : w.ownsRow B e sz v n xs) : (w.drewN q).ownsRow B e sz v n xs := h
set_option maxRecDepth 100000 in
set_option maxHeartbeats 8000000 in
theorem sortedR_any (v : Value) (n B0 : Nat) (l : List ByteArray) (w : World) (h : w.ownsRow B0 9 1 v n (strs l)) (hn : n ≤ 1000) :
    Calls Tryz.prog 24 #[v] w fun e w' => ∃ v', e = .returned v' ∧ w'.ownsRow w.heap.size 9 1 v' n (strs (sortB l)) ∧ Below w.heap.size w w' := by
  have hl : l.length = n := by have := h.1; unfold strs at this; simpa using this
  obtain ⟨A, cap, rfl, hA⟩ := own_formU h
  have HRD : Hid (∀ i x, l[i]? = some x → ∃ g, A = some ⟨g, 0, none⟩ ∧ ∀ W, Below w.heap.size w W → W.cell? ⟨g, i, none⟩ = some (.string x)) := Lib.hid (fun i x hx => by
    have hi := (List.getElem?_eq_some_iff.1 hx).1
    obtain ⟨g, rfl⟩ := hA (by omega)
    exact ⟨g, rfl, fun W hW => (hW.cell (h.lt g rfl).2).trans (own_cellU h (strs_at hx))⟩)
  have HL := Lib.hid hl
  have H0 : Hid (w.ownsRow w.heap.size 9 1 (.slice none 0 0) 0 (strs (sortB (l.take 0)))) := Lib.hid (by simpa [sortB, strs] using World.ownsRow_nil w w.heap.size 9 1)
  clear h hA hl
  go_enter Tryz.func24, Tryz.ntmps24
  go_wp2_with fail
  go_loopw [3, 4] (fun b3 b4 wr => ∃ (k : Nat) (v : Value), k ≤ n ∧ b4 = .int .i64 k ∧ v = b3 ∧ Hid (wr.ownsRow w.heap.size 9 1 v k (strs (sortB (l.take k)))) ∧ Hid (Below w.heap.size w wr)) (fun _ b4 _ => n - (intOf b4).toNat)
  case atStart => exact ⟨0, _, Nat.zero_le _, rfl, rfl, H0, Lib.hid (Below.refl _ _)⟩
  case round =>
    clear H0
    obtain ⟨k, v, hk, rfl, rfl, hO, hb⟩ := hrel
    by_cases hkn : k < n
    · obtain ⟨x, hx⟩ : ∃ x, l[k]? = some x := ⟨_, List.getElem?_eq_getElem (by rw [HL.out]; exact hkn)⟩
      obtain ⟨g, rfl, hgc⟩ := HRD.out k x hx
      have e0 := hgc wr hb.out
      have hes : (sortB (l.take k)).length = k := by rw [sortB_len, List.length_take, HL.out]; omega
      have HNX := Lib.hid (fun j (hB : Behind (sortB (l.take k)) x j) (hj : j ≤ (sortB (l.take k)).length) hs => sort_next hx hB hj hs)
      obtain ⟨es, hes2⟩ : ∃ es, es = sortB (l.take k) := ⟨_, rfl⟩
      rw [← hes2] at hO hes HNX
      have HES := Lib.hid hes
      clear hes2 hx hgc hes
      go_wp2_with (at_builtin; go_must (refine wpList_app hb.out hb.out.size _ 9 rfl _ _ 31 rfl Tryz.underlying31 _ 1 16 infoStr rfl (by decide) _ k _ rfl hO.out 1 rfl rfl (by simp [Value.oneCell']) (by unfold maxLen; omega) (by omega) ?_); intro v1 w1 hown1 hb1 _; obtain ⟨A1, cap1, rfl, hA1⟩ := own_formU hown1; obtain ⟨g1, rfl⟩ := hA1 (by omega))
      have HO1 : Hid (w1.ownsRow w.heap.size 9 1 (.slice (some ⟨g1, 0, none⟩) (k + 1) cap1) (k + 1) (strs (putAt es x k))) := Lib.hid (by
        rw [show putAt es x k = es ++ [x] from by rw [← HES.out]; exact putAt_end _ _]
        simpa [strs] using hown1)
      have HB1 := Lib.hid hb1
      have HG1 : Hid (w.heap.size ≤ g1) := Lib.hid (hown1.lt g1 rfl).1
      clear hown1 hb1 hA1 hO hb e0
      have gw : IntKind.i64.wrap ((k : Int) + 1 - 1) = (k : Int) := by rw [IntKind.wrap_i64]; omega
      go_wp2_with fail
      go_loopw [5] (fun b5 wr2 => ∃ j : Nat, j ≤ k ∧ b5 = .int .i64 j ∧ Hid (wr2.ownsRow w.heap.size 9 1 (.slice (some ⟨g1, 0, none⟩) (k + 1) cap1) (k + 1) (strs (putAt es x j))) ∧ Hid (Behind es x j) ∧ Hid (Below w.heap.size w wr2)) (fun b5 _ => (intOf b5).toNat)
      case atStart => exact ⟨k, Nat.le_refl _, by first | rfl | go_num, HO1, Lib.hid (fun i y hi hy => by have := (List.getElem?_eq_some_iff.1 hy).1; rw [HES.out] at this; omega), HB1⟩
      case round =>
        clear HO1 HB1 gw
        obtain ⟨j, hj, rfl, hO2, hbh, hb2⟩ := hrel
        by_cases hj0 : j = 0
        · subst hj0
          have HR : Hid (wr.ownsRow w.heap.size 9 1 (.slice (some ⟨g1, 0, none⟩) (k + 1) cap1) (k + 1) (strs (sortB (l.take (k + 1))))) := Lib.hid (by
            rw [← HNX.out 0 hbh.out (Nat.zero_le _) (.inl rfl)]
            exact hO2.out)
          clear hO2 hbh HNX
          go_wp2_with fail
          go_quiet (fail)
          have HR2 := Lib.hid (drewN_ownU (q := nq) HR.out)
          have HB2 := Lib.hid (below_drewN hb2.out nq)
          clear hb2 HR
          go_wp2_with fail
          go_roundw
          case rel => exact ⟨k + 1, _, by omega, by go_num, rfl, HR2, HB2⟩
          case measure => simp [intOf]; omega
        · obtain ⟨i, hi⟩ : ∃ i, j = i + 1 := ⟨j - 1, by omega⟩
          obtain ⟨e, he⟩ : ∃ e, es[i]? = some e := ⟨_, List.getElem?_eq_getElem (by rw [HES.out]; omega)⟩
          obtain ⟨p1, p2⟩ := putAt_get (x := x) he
          rw [← hi] at p1 p2
          have c0 := own_cellU hO2.out (strs_at p1)
          have c1 := own_cellU hO2.out (strs_at p2)
          have HSW := Lib.hid (putAt_swap (x := x) he)
          have HEJ := Lib.hid he
          have HIJ := Lib.hid hi
          have hw1 : IntKind.i64.wrap ((j : Int) - 1) = (i : Int) := by rw [IntKind.wrap_i64]; omega
          have hi1 : i < k + 1 := by omega
          have hi2 : j < k + 1 := by omega
          have hjp : 0 < j := by omega
          have hjd : decide (0 < j) = true := decide_eq_true hjp
          have hjd2 : decide ((0 : Int) < (j : Int)) = true := decide_eq_true (by omega)
          have hji : i < j := by omega
          clear p1 p2 hi he
          rcases less_cases e x with ⟨q0, q1, q2⟩ | ⟨q0, q12⟩
          · have HBI : Hid (Behind es x i) := Lib.hid (behind_go (HIJ.out ▸ hbh.out) HEJ.out q0)
            clear q0 hbh HNX
            go_wp2_with fail
            go_quiet (fail)
            obtain ⟨wq, hwq⟩ : ∃ wq, wq = wr.drewN nq := ⟨_, rfl⟩
            have HO3 : Hid (wq.ownsRow w.heap.size 9 1 (.slice (some ⟨g1, 0, none⟩) (k + 1) cap1) (k + 1) (strs (putAt es x j))) := Lib.hid (by rw [hwq]; exact hO2.out)
            have HB3 : Hid (Below w.heap.size w wq) := Lib.hid (by rw [hwq]; exact below_drewN hb2.out nq)
            have d0 : wq.cell? ⟨g1, i, none⟩ = some (.string e) := by rw [hwq]; exact c0
            have d1 : wq.cell? ⟨g1, j, none⟩ = some (.string x) := by rw [hwq]; exact c1
            rw [← hwq]
            clear hwq hO2 hb2 c0 c1
            go_wp2_with fail
            go_quiet (fail)
            obtain ⟨wz, hwz⟩ : ∃ wz, wz = wq.drewN nq := ⟨_, rfl⟩
            have HO4 : Hid (wz.ownsRow w.heap.size 9 1 (.slice (some ⟨g1, 0, none⟩) (k + 1) cap1) (k + 1) (strs (putAt es x j))) := Lib.hid (by rw [hwz]; exact HO3.out)
            have HB4 : Hid (Below w.heap.size w wz) := Lib.hid (by rw [hwz]; exact below_drewN HB3.out nq)
            have b0 : wz.cell? ⟨g1, i, none⟩ = some (.string e) := by rw [hwz]; exact d0
            have b1 : wz.cell? ⟨g1, j, none⟩ = some (.string x) := by rw [hwz]; exact d1
            rw [← hwz]
            clear hwz HO3 HB3 d0 d1
            have f0 := own_freeU HO4.out i
            have o1 := own_setCellU HO4.out i (by omega) (.string x)
            have o2 := own_setCellU o1 j (by omega) (.string e)
            have f1 := own_freeU o1 j
            have b2 : (wz.setCell ⟨g1, i, none⟩ (.string x)).cell? ⟨g1, j, none⟩ = some (.string x) := by
              rw [World.cell?_setCell_other _ _ _ _ (by first | (simp; done) | (simp; omega))]; exact b1
            have HO5 : Hid (((wz.setCell ⟨g1, i, none⟩ (.string x)).setCell ⟨g1, j, none⟩ (.string e)).ownsRow w.heap.size 9 1 (.slice (some ⟨g1, 0, none⟩) (k + 1) cap1) (k + 1) (strs (putAt es x i))) := Lib.hid (by
              rw [← HSW.out, ← HIJ.out, strs_set, strs_set]; exact o2)
            have HB5 : Hid (Below w.heap.size w ((wz.setCell ⟨g1, i, none⟩ (.string x)).setCell ⟨g1, j, none⟩ (.string e))) := Lib.hid ((HB4.out.setCell HG1.out _).setCell HG1.out _)
            clear o1 o2 HO4 HB4
            go_wp2_with fail
            go_roundw
            case rel => exact ⟨i, by omega, by go_num, HO5, HBI, HB5⟩
            case measure => simp [intOf]; omega
          · have HR : Hid (wr.ownsRow w.heap.size 9 1 (.slice (some ⟨g1, 0, none⟩) (k + 1) cap1) (k + 1) (strs (sortB (l.take (k + 1))))) := Lib.hid (by
              rw [← HNX.out j hbh.out (by rw [HES.out]; exact hj) (.inr ⟨e, by rw [HIJ.out]; exact HEJ.out, q0⟩)]
              exact hO2.out)
            clear hO2 hbh HNX q0
            rcases q12 with q1 | ⟨q1, q2⟩
            · go_wp2_with fail
              go_quiet (fail)
              have HR2 := Lib.hid (drewN_ownU (q := nq) HR.out)
              have HB2 := Lib.hid (below_drewN hb2.out nq)
              clear hb2 HR c0 c1
              go_wp2_with fail
              go_roundw
              case rel => exact ⟨k + 1, _, by omega, by go_num, rfl, HR2, HB2⟩
              case measure => simp [intOf]; omega
            · go_wp2_with fail
              go_quiet (fail)
              have HR2 := Lib.hid (drewN_ownU (q := nq) HR.out)
              have HB2 := Lib.hid (below_drewN hb2.out nq)
              clear hb2 HR c0 c1
              go_wp2_with fail
              go_roundw
              case rel => exact ⟨k + 1, _, by omega, by go_num, rfl, HR2, HB2⟩
              case measure => simp [intOf]; omega
    · have hkk : k = n := by omega
      have HR : Hid (wr.ownsRow w.heap.size 9 1 v n (strs (sortB l))) := Lib.hid (by
        have h1 := hO.out
        rw [hkk, List.take_of_length_le (by rw [HL.out]; omega)] at h1
        exact h1)
      clear hkk
      go_wp2
      go_ret
      exact ⟨_, rfl, HR.out, hb.out⟩
end Go.Proofs.YtbbbeldbhlehnaaGreat
end
/-! The reference's ZonesOf. -/
section
set_option linter.unusedVariables false
set_option linter.unusedSimpArgs false
namespace Go.Proofs.YtbbbeldbhlehnaaGreat
open Go.RowKit Gno
theorem own_baseU {w : World} {B C sz n : Nat} {e : TypeId} {v : Value} {xs : List Value} (h : w.ownsRow B e sz v n xs) (hC : C ≤ B) : w.ownsRow C e sz v n xs := by
  refine ⟨h.1, ?_⟩
  rcases h.2 with h | ⟨g, cap, cur, h1, h2, h3⟩
  · exact .inl h
  · exact .inr ⟨g, cap, cur, h1, by omega, h3⟩
set_option maxRecDepth 100000 in
set_option maxHeartbeats 8000000 in
theorem zonesR_any (d : Dt) (A : Option Addr) (n cap : Nat) (l : List Us) (mt : ByteArray) (t : Int) (w : World) (hD : DataAt w w.heap.size d) (hU : UsesAt w w.heap.size A n l) (hmt : mt.size ≤ maxLen) :
    Calls Tryz.prog 9 #[d.val, .slice A n cap, .string mt, .int .i64 t] w fun e w' => ∃ v, e = .returned (.tuple #[v, .int .i64 (zonesE d l mt t)]) ∧ w'.ownsRow (w.heap.size + 1) 9 1 v (zonesR d l mt t).length (strs (zonesR d l mt t)) ∧ Below w.heap.size w w' := by
  have HB1 : Hid (Below w.heap.size w (w.alloc (Dobj d))) := Lib.hid ((Below.refl _ _).alloc (Nat.le_refl _) _)
  have C := Lib.hid (usesErr_any d A n cap l t (w.alloc (Dobj d)) (hD.next HB1.out) (hU.next HB1.out))
  have HX := Lib.hid (fun W (h : Below (w.heap.size + 1) (w.alloc (Dobj d)) W) => boxU hD hU h)
  have OF := Lib.hid (fun zone W (h : Below (w.heap.size + 1) (w.alloc (Dobj d)) W) => metaOfR_any A n cap l zone t W (HX.out W h).2.2.1)
  have NM := Lib.hid (fun W => isName_any mt W hmt)
  have hzn : d.zs.length = d.zn := hD.2.1.1
  have HZG := Lib.hid (fun i (hi : i < d.zn) => zones_get hD.2.1 hi)
  clear hD hU hmt
  unfold Dt.val at *
  by_cases ha : askedE d l t = 0
  · cases hnm : nameOk mt
    · have HE := Lib.hid (zonesE_name ha hnm)
      rw [HE.out.1, HE.out.2]
      rw [hnm] at NM
      rw [ha] at C
      clear ha hnm HE OF HZG hzn
      go_enter Tryz.func9, Tryz.ntmps9
      go_wp2_with fail
      refine C.out.mono ?_
      rintro e w4 ⟨rfl, hb4⟩
      have HB5 : Hid (Below (w.heap.size + 1) (w.alloc (Dobj d)) w4) := Lib.hid (hb4.mono (by simp))
      clear hb4
      go_wp2_with fail
      refine (NM.out _).mono ?_
      rintro e w5 ⟨rfl, rfl⟩
      have hfin := (HX.out _ HB5.out).1
      go_wp2
      go_ret2
      exact ⟨_, rfl, World.ownsRow_nil _ _ _ _, hfin⟩
    · have HE := Lib.hid (zonesE_is ha hnm)
      rw [HE.out.1, HE.out.2]
      have hfew := asked_few ha
      rw [hnm] at NM
      rw [ha] at C
      have HZ : Hid (∀ i, i < d.zn → ∃ b o z, d.zA = some ⟨b, o, none⟩ ∧ d.zs[i]? = some z ∧ ∀ W, Below (w.heap.size + 1) (w.alloc (Dobj d)) W → (W.cell? ⟨b, o + i * 2, none⟩ = some (.string z.name) ∧ W.cell? ⟨b, o + i * 2 + 1, none⟩ = some (.slice z.A z.n z.cap))) := Lib.hid (fun i hi => by
        obtain ⟨b, o, z, e1, _, e2, _, e3⟩ := HZG.out i hi
        exact ⟨b, o, z, e1, e2, fun W h => (e3 W (HX.out W h).1).1⟩)
      have HST := Lib.hid (fun i z (h : d.zs[i]? = some z) => zonesUp_step (l := l) (mt := mt) (t := t) h)
      have HUL := Lib.hid (fun i => zonesUp_len (d := d) (l := l) (mt := mt) (t := t) i)
      have HEND : Hid (zonesUp d l mt t d.zn = zonesL d l mt t) := Lib.hid (zonesUp_end (by omega))
      clear ha hnm HE HZG hzn
      go_enter Tryz.func9, Tryz.ntmps9
      go_wp2_with fail
      refine C.out.mono ?_
      rintro e w4 ⟨rfl, hb4⟩
      have HB5 : Hid (Below (w.heap.size + 1) (w.alloc (Dobj d)) w4) := Lib.hid (hb4.mono (by simp))
      clear hb4
      go_wp2_with fail
      refine (NM.out _).mono ?_
      rintro e w5 ⟨rfl, rfl⟩
      have HB6 := HB5
      obtain ⟨_, _, _, c0, c1, c2⟩ := HX.out _ HB6.out
      go_wp2_with fail
      clear c0 c1 c2
      go_loopw [11, 12] (fun b11 b27 wr => ∃ (i : Nat) (v : Value), i ≤ d.zn ∧ b27 = .int .i64 i ∧ v = b11 ∧ Hid (wr.ownsRow (w.heap.size + 1) 9 1 v (zonesUp d l mt t i).length (strs (zonesUp d l mt t i))) ∧ Hid (Below (w.heap.size + 1) (w.alloc (Dobj d)) wr)) (fun _ b27 _ => d.zn - (intOf b27).toNat)
      case atStart => exact ⟨0, _, Nat.zero_le _, rfl, rfl, Lib.hid (World.ownsRow_nil _ _ _ _), HB6⟩
      case round =>
        clear HB6 HB5
        obtain ⟨i, v, hi, rfl, rfl, hO, hb⟩ := hrel
        by_cases hit : i < d.zn
        · obtain ⟨b, o, z, hA, hz, hzc⟩ := HZ.out i hit
          obtain ⟨z0, z1⟩ := hzc _ hb.out
          have hws : w.heap.size + 1 ≤ wr.heap.size := by have := hb.out.size; simpa using this
          have HS := Lib.hid (HST.out i z hz)
          have hul := HUL.out i
          obtain ⟨_, _, _, c0, c1, c2⟩ := HX.out _ hb.out
          have hOF := OF.out z.name _ hb.out
          obtain ⟨M, hM⟩ : ∃ M, M = metaU l z.name t := ⟨_, rfl⟩
          rw [← hM] at hOF HS
          have HOF := Lib.hid hOF
          obtain ⟨L, hL⟩ : ∃ L, L = zonesUp d l mt t i := ⟨_, rfl⟩
          rw [← hL] at hO hul HS
          have HO := hO
          have HBX := hb
          have HA := Lib.hid hA
          have HZC := Lib.hid hzc
          rw [hA] at c1
          clear hM hL hO hz hzc hOF hA hb
          go_wp2_with fail
          refine HOF.out.mono ?_
          rintro e w6 ⟨rfl, hb7⟩
          have HB7 := Lib.hid (box_more HBX.out hb7)
          have HO7 := Lib.hid (own_belowU HO.out hb7 (Nat.le_refl _))
          clear c0 c1 c2 z0 z1
          obtain ⟨_, _, _, c0, c1, c2⟩ := HX.out _ HB7.out
          rw [HA.out] at c1
          obtain ⟨z0, z1⟩ := HZC.out _ HB7.out
          have hs7 : w.heap.size + 1 ≤ w6.heap.size := by have := HB7.out.size; simpa using this
          clear hb7 HOF HO HBX
          cases hm : (M.toList == mt.toList)
          · have HR : Hid (w6.ownsRow (w.heap.size + 1) 9 1 v (zonesUp d l mt t (i + 1)).length (strs (zonesUp d l mt t (i + 1)))) := Lib.hid (by
              rw [HS.out, if_neg (by unfold same; rw [hm]; decide)]
              exact HO7.out)
            go_wp2
            go_roundw
            case rel => exact ⟨i + 1, v, by omega, by go_num, rfl, HR, HB7⟩
            case measure => simp [intOf]; omega
          · go_wp2_with (at_builtin; go_must (refine wpList_app HB7.out hs7 _ 9 rfl _ _ 31 rfl Tryz.underlying31 _ 1 16 infoStr rfl (by decide) _ L.length _ rfl HO7.out 1 rfl rfl (by simp [Value.oneCell']) (by unfold maxLen; omega) (by omega) ?_); intro v' w8 hown8 hb8 _)
            have HR : Hid (w8.ownsRow (w.heap.size + 1) 9 1 v' (zonesUp d l mt t (i + 1)).length (strs (zonesUp d l mt t (i + 1)))) := Lib.hid (by
              rw [HS.out, if_pos (by unfold same; exact hm), List.length_append]
              simpa [strs] using hown8)
            have HB8 := Lib.hid hb8
            clear hown8 hb8
            try go_wp2
            go_roundw
            case rel => exact ⟨i + 1, v', by omega, by go_num, rfl, HR, HB8⟩
            case measure => simp [intOf]; omega
        · have hin : i = d.zn := by omega
          have HR : Hid (wr.ownsRow (w.heap.size + 1) 9 1 v (zonesL d l mt t).length (strs (zonesL d l mt t))) := Lib.hid (by rw [← HEND.out, ← hin]; exact hO.out)
          have hzl : (zonesL d l mt t).length ≤ 5 := by rw [← HEND.out]; have := HUL.out d.zn; omega
          have SO := Lib.hid (sortedR_any v _ _ _ wr HR.out (by omega))
          have hws : w.heap.size + 1 ≤ wr.heap.size := by have := hb.out.size; simpa using this
          obtain ⟨_, _, _, c0, c1, c2⟩ := HX.out _ hb.out
          clear hin
          go_wp2_with fail
          refine SO.out.mono ?_
          rintro e w6 ⟨v6, rfl, hs6, hg6⟩
          have HBF := Lib.hid (box_more hb.out hg6)
          have hfin := (HX.out _ HBF.out).1
          have HS6 : Hid (w6.ownsRow (w.heap.size + 1) 9 1 v6 (zonesS d l mt t).length (strs (zonesS d l mt t))) := Lib.hid (by unfold zonesS; rw [sortB_len]; exact own_baseU hs6 hws)
          clear hs6 hg6 c0 c1 c2
          go_wp2
          go_ret2
          exact ⟨v6, rfl, HS6.out, hfin⟩
  · have HE := Lib.hid (zonesE_asked (mt := mt) ha)
    rw [HE.out.1, HE.out.2]
    obtain ⟨E, hE⟩ : ∃ E, E = askedE d l t := ⟨_, rfl⟩
    rw [← hE] at C ha ⊢
    have g1 : (E != 0) = true := by simpa using ha
    clear ha hE HE OF HZG hzn NM
    go_enter Tryz.func9, Tryz.ntmps9
    go_wp2_with fail
    refine C.out.mono ?_
    rintro e w4 ⟨rfl, hb4⟩
    have hfin := (HX.out _ (hb4.mono (by simp))).1
    clear hb4
    go_wp2
    go_ret2
    exact ⟨_, rfl, World.ownsRow_nil _ _ _ _, hfin⟩
end Go.Proofs.YtbbbeldbhlehnaaGreat
end
