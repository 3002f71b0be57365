/- Uses: what UsesTrue and UsesGone ask, plain; a use stored into an own row. -/
import Derived.Test.YtbbbeldbhlehnaaGreatMUsesTellsRow0
import Derived.Test.YtbbbeldbhlehnaaGreatMUsesTellsRow1
import Derived.Test.YtbbbeldbhlehnaaGreatMUsesTellsRow2
import Derived.Test.YtbbbeldbhlehnaaGreatMUsesTellsRow3
import Derived.Test.YtbbbeldbhlehnaaGreatMUsesTellsRow4
import Derived.Test.YtbbbeldbhlehnaaGreatMUsesTellsRow5
import Derived.Test.YtbbbeldbhlehnaaGreatMUsesTellsRow6
import Derived.Test.YtbbbeldbhlehnaaGreatMUsesTellsRow7
import Derived.Test.YtbbbeldbhlehnaaGreatMUsesTellsRow8
import Derived.Test.YtbbbeldbhlehnaaGreatMUsesTellsRow9
import Derived.Test.YtbbbeldbhlehnaaGreatMUsesTellsRow10
import Derived.Test.YtbbbeldbhlehnaaGreatMUsesTellsRow11
import Derived.Test.YtbbbeldbhlehnaaGreatMUsesTellsRow12
import Derived.Test.YtbbbeldbhlehnaaGreatMUsesTellsRow13
import Derived.Test.YtbbbeldbhlehnaaGreatMUsesTellsRow14
import Derived.Test.YtbbbeldbhlehnaaGreatMUsesTellsRow15
import Derived.Test.YtbbbeldbhlehnaaGreatMUsesTellsRow16
import Derived.Test.YtbbbeldbhlehnaaGreatMUsesTellsRow17
import Derived.Test.YtbbbeldbhlehnaaGreatMUsesTellsRow18
import Derived.Test.YtbbbeldbhlehnaaGreatMUsesTellsRow19
import Derived.Test.YtbbbeldbhlehnaaGreatMUsesTellsRow20
import Derived.Test.YtbbbeldbhlehnaaGreatMUsesTellsRow21
import Derived.Test.YtbbbeldbhlehnaaGreatMUsesTellsRow22
import Derived.Test.YtbbbeldbhlehnaaGreatMUsesTellsRow23
import Derived.Test.YtbbbeldbhlehnaaGreatMUsesTellsRow24
import Derived.Test.YtbbbeldbhlehnaaGreatMUsesTellsRow25
import Derived.Test.YtbbbeldbhlehnaaGreatMUsesTellsRow26
import Derived.Test.YtbbbeldbhlehnaaGreatMUsesTellsRow27
import Derived.Test.YtbbbeldbhlehnaaGreatMUsesTellsRow28
import Derived.Test.YtbbbeldbhlehnaaGreatMUsesTellsRow29
import Derived.Test.YtbbbeldbhlehnaaGreatMUsesTellsRow30
import Derived.Test.YtbbbeldbhlehnaaGreatMUsesTellsRow31
import Derived.Test.YtbbbeldbhlehnaaGreatMUsesTellsRow32
import Derived.Test.YtbbbeldbhlehnaaGreatMUsesTellsRow33
import Derived.Test.YtbbbeldbhlehnaaGreatMUsesTellsRow34
import Derived.Test.YtbbbeldbhlehnaaGreatMUsesTellsRow35
import Derived.Test.YtbbbeldbhlehnaaGreatMUsesTellsRow36
import Derived.Test.YtbbbeldbhlehnaaGreatMUsesTellsRow37
import Derived.Test.YtbbbeldbhlehnaaGreatMUsesTellsRow38
import Derived.Test.YtbbbeldbhlehnaaGreatMUsesTellsRow39
import Derived.Test.YtbbbeldbhlehnaaGreatQUseQ
set_option linter.unusedSimpArgs false
set_option linter.unusedVariables false
set_option linter.unusedVariables false
set_option linter.unusedSimpArgs false
namespace Gno
open Go
theorem asked_zero {d : Dt} {l : List Us} {t : Int} (h : askedE d l t = 0) : usesE d l = 0 ∧ ¬ (t < 0 ∨ 1893456000 ≤ t) := by
  unfold askedE at h
  by_cases e : usesE d l = 0
  · rw [if_neg (by simp [e])] at h
    refine ⟨e, fun q => ?_⟩
    rw [if_pos q] at h; cases h
  · rw [if_pos e] at h; exact absurd h e
theorem zones_zero {d : Dt} {l : List Us} {mt : ByteArray} {t : Int} (h : zonesE d l mt t = 0) : askedE d l t = 0 ∧ nameOk mt = true := by
  unfold zonesE at h
  by_cases e : askedE d l t = 0
  · rw [if_neg (by simp [e])] at h
    refine ⟨e, ?_⟩
    cases q : nameOk mt
    · rw [if_neg (by simp [q])] at h; cases h
    · rfl
  · rw [if_pos e] at h; exact absurd h e
theorem asked_like {d : Dt} {l m : List Us} {t : Int} (h : askedE d l t = 0) (hm : RightU d m) : askedE d m t = 0 := Go.Proofs.YtbbbeldbhlehnaaGreat.askedE_ok (usesE_of hm) (asked_zero h).2
theorem zones_like {d : Dt} {l m : List Us} {mt : ByteArray} {t : Int} (h : zonesE d l mt t = 0) (hm : RightU d m) (hU : ∀ zone u, isUse zone t u = true → (u ∈ l ↔ u ∈ m)) : zonesE d m mt t = 0 ∧ zonesR d m mt t = zonesR d l mt t := by
  obtain ⟨ha, hn⟩ := zones_zero h
  have hl := rightU_of (asked_zero ha).1
  have h1 := zonesE_is (asked_like ha hm) hn
  have h2 := zonesE_is ha hn
  refine ⟨h1.1, ?_⟩
  rw [h1.2, h2.2]
  exact (zonesS_two fun zone => metaU_two hl.apart hm.apart (hU zone)).symm
theorem meta_zero {d : Dt} {l : List Us} {nm : ByteArray} {t : Int} (h : metaE d l nm t = 0) : askedE d l t = 0 ∧ ¬ leadN d nm < 0 := by
  unfold metaE at h
  by_cases e : askedE d l t = 0
  · rw [if_neg (by simp [e])] at h
    refine ⟨e, fun q => ?_⟩
    rw [if_pos q] at h; cases h
  · rw [if_pos e] at h; exact absurd h e
theorem meta_like {d : Dt} {l m : List Us} {nm : ByteArray} {t : Int} (h : metaE d l nm t = 0) (hm : RightU d m) (hU : ∀ zone u, isUse zone t u = true → (u ∈ l ↔ u ∈ m)) : metaE d m nm t = 0 ∧ metaT d m nm t = metaT d l nm t := by
  obtain ⟨ha, hn⟩ := meta_zero h
  have hl := rightU_of (asked_zero ha).1
  have hr : leadN d nm < d.zs.length := (leadT_range d (d.ls.length + 1) nm).2
  have hz : d.zs[(leadN d nm).toNat]? = some (d.zs[(leadN d nm).toNat]'(by omega)) := List.getElem?_eq_getElem _
  have h1 := metaE_is (asked_like ha hm) hn hz
  have h2 := metaE_is ha hn hz
  refine ⟨h1.1, ?_⟩
  rw [h1.2, h2.2]
  exact (metaU_two hl.apart hm.apart (hU _)).symm
theorem zones_swap {d : Dt} {l : List Us} {mt : ByteArray} {t : Int} (h : zonesE d l mt t = 0) {a b : Nat} {x y : Us} (ha : l[a]? = some x) (hb : l[b]? = some y) : zonesE d (swapL l a b x y) mt t = 0 ∧ zonesR d (swapL l a b x y) mt t = zonesR d l mt t := by
  have hp := swap_perm ha hb
  exact zones_like h ((rightU_of (asked_zero (zones_zero h).1).1).perm hp.symm) fun zone u _ => (hp.mem_iff).symm
theorem right_gone {d : Dt} {l : List Us} {t : Int} (h : askedE d l t = 0) (k : Nat) : RightU d (l.take k ++ l.drop (k + 1)) := (rightU_of (asked_zero h).1).sub (gone_sub l k)
/-- a use has not that time. -/
theorem not_use {x : Us} {t : Int} (h : ¬ (x.fr ≤ t ∧ t < x.til)) (zone : ByteArray) : isUse zone t x = false := by
  unfold isUse
  have : (decide (x.fr ≤ t) && decide (t < x.til)) = false := by
    rw [Bool.and_eq_false_iff, decide_eq_false_iff_not, decide_eq_false_iff_not]
    omega
  rw [this, Bool.and_false]
theorem zones_gone {d : Dt} {l : List Us} {mt : ByteArray} {t : Int} (h : zonesE d l mt t = 0) {k : Nat} {x : Us} (hx : l[k]? = some x) (hn : ¬ (x.fr ≤ t ∧ t < x.til)) : zonesE d (l.take k ++ l.drop (k + 1)) mt t = 0 ∧ zonesR d (l.take k ++ l.drop (k + 1)) mt t = zonesR d l mt t :=
  zones_like h (right_gone (zones_zero h).1 k) fun zone u hu => gone_mem hx (not_use hn zone) hu
theorem meta_gone {d : Dt} {l : List Us} {nm : ByteArray} {t : Int} (h : metaE d l nm t = 0) {k : Nat} {x : Us} (hx : l[k]? = some x) (hn : ¬ (x.fr ≤ t ∧ t < x.til)) : metaE d (l.take k ++ l.drop (k + 1)) nm t = 0 ∧ metaT d (l.take k ++ l.drop (k + 1)) nm t = metaT d l nm t :=
  meta_like h (right_gone (meta_zero h).1 k) fun zone u hu => gone_mem hx (not_use hn zone) hu
theorem uss_set : ∀ (l : List Us) (a : Nat) (y : Us), uss (l.set a y) = ((((uss l).set (a * 4) (.string y.zone)).set (a * 4 + 1) (.int .i64 y.fr)).set (a * 4 + 2) (.int .i64 y.til)).set (a * 4 + 3) (.string y.mt)
  | [], a, y => rfl
  | u :: l, 0, y => rfl
  | u :: l, a + 1, y => by
    rw [List.set_cons_succ, uss_cons, uss_cons, uss_set l a y, show (a + 1) * 4 = a * 4 + 1 + 1 + 1 + 1 by omega]
    simp only [List.set_cons_succ]
/-- the zone is among those that are told just if the Meta is its own. -/
theorem among_zones {d : Dt} {l : List Us} {mt : ByteArray} {t : Int} (h : zonesE d l mt t = 0) {k : Nat} {z : Zn} (hz : d.zs[k]? = some z) : amongTo (zonesR d l mt t) z.name (zonesR d l mt t).length = same (metaU l z.name t) mt := by
  obtain ⟨ha, hn⟩ := zones_zero h
  rw [(zonesE_is ha hn).2]
  have hm := zonesS_has (d := d) (l := l) (mt := mt) (t := t) hz
  unfold amongTo
  rw [List.take_length]
  rw [Bool.eq_iff_iff, List.any_eq_true, same_iff, ← hm]
  constructor
  · rintro ⟨x, hx, e⟩
    rw [(same_iff _ _).1 e]; exact hx
  · intro q; exact ⟨_, q, (same_iff _ _).2 rfl⟩
theorem zonesR_rise {d : Dt} {l : List Us} {mt : ByteArray} {t : Int} (h : zonesE d l mt t = 0) {i : Nat} {a b : ByteArray} (ha : (zonesR d l mt t)[i]? = some a) (hb : (zonesR d l mt t)[i + 1]? = some b) : Op.bytesLess a.toList b.toList = true := by
  obtain ⟨hk, hn⟩ := zones_zero h
  rw [(zonesE_is hk hn).2] at ha hb
  exact zonesS_rise (rightU_of (asked_zero hk).1).data l mt t ha hb
end Gno
namespace Go.Proofs.YtbbbeldbhlehnaaGreat
open Go.RowKit Gno
/-- the world behind a store of a use. -/
abbrev setUse (w : World) (g a : Nat) (y : Us) : World := (((w.setCell ⟨g, a * 4, none⟩ (.string y.zone)).setCell ⟨g, a * 4 + 1, none⟩ (.int .i64 y.fr)).setCell ⟨g, a * 4 + 2, none⟩ (.int .i64 y.til)).setCell ⟨g, a * 4 + 3, none⟩ (.string y.mt)
theorem own_setUse {w : World} {B g n cap : Nat} {l : List Us} (h : w.ownsRow B 43 4 (.slice (some ⟨g, 0, none⟩) n cap) n (uss l)) {a : Nat} (ha : a < n) (y : Us) :
    (setUse w g a y).ownsRow B 43 4 (.slice (some ⟨g, 0, none⟩) n cap) n (uss (l.set a y)) := by
  rw [uss_set]
  exact own_setCellU (own_setCellU (own_setCellU (own_setCellU h _ (by omega) _) _ (by omega) _) _ (by omega) _) _ (by omega) _
theorem setUse_far {w : World} {g a p o : Nat} (y : Us) (h : g ≠ p) : (setUse w g a y).cell? ⟨p, o, none⟩ = w.cell? ⟨p, o, none⟩ := by
  unfold setUse
  rw [World.cell?_setCell_far _ _ _ _ h, World.cell?_setCell_far _ _ _ _ h, World.cell?_setCell_far _ _ _ _ h, World.cell?_setCell_far _ _ _ _ h]
theorem setUse_below {B : Nat} {v w : World} {g a : Nat} (y : Us) (h : Below B v w) (hg : B ≤ g) : Below B v (setUse w g a y) :=
  (((h.setCell (p := ⟨g, a * 4, none⟩) hg _).setCell (p := ⟨g, a * 4 + 1, none⟩) hg _).setCell (p := ⟨g, a * 4 + 2, none⟩) hg _).setCell (p := ⟨g, a * 4 + 3, none⟩) hg _
/-- the cells of a use in an own row, that they may be written. -/
theorem own_use {w : World} {B g n cap : Nat} {l : List Us} (h : w.ownsRow B 43 4 (.slice (some ⟨g, 0, none⟩) n cap) n (uss l)) {a : Nat} {x : Us} (hx : l[a]? = some x) :
    (w.cell? ⟨g, a * 4, none⟩ = some (.string x.zone) ∧ w.cell? ⟨g, a * 4 + 1, none⟩ = some (.int .i64 x.fr) ∧ w.cell? ⟨g, a * 4 + 2, none⟩ = some (.int .i64 x.til) ∧ w.cell? ⟨g, a * 4 + 3, none⟩ = some (.string x.mt)) ∧
    (w.frozen? ⟨g, a * 4, none⟩ = false ∧ w.frozen? ⟨g, a * 4 + 1, none⟩ = false ∧ w.frozen? ⟨g, a * 4 + 2, none⟩ = false ∧ w.frozen? ⟨g, a * 4 + 3, none⟩ = false) :=
  ⟨uss_own h a x hx, own_freeU h _, own_freeU h _, own_freeU h _, own_freeU h _⟩
/-- the box of a use. -/
abbrev usO (u : Us) : Obj := .cells #[.string u.zone, .int .i64 u.fr, .int .i64 u.til, .string u.mt] 43
theorem usO_at {W : World} {b : Nat} {u : Us} (h : W.heap[b]? = some (usO u)) : UsAt W b 0 u := ⟨cell_ofU h rfl, cell_ofU h rfl, cell_ofU h rfl, cell_ofU h rfl⟩
theorem two_boxes (W : World) (x y : Us) : Below W.heap.size W ((W.alloc (usO x)).alloc (usO y)).drew ∧ UsAt ((W.alloc (usO x)).alloc (usO y)).drew W.heap.size 0 x ∧ UsAt ((W.alloc (usO x)).alloc (usO y)).drew (W.heap.size + 1) 0 y := by
  refine ⟨(((Below.refl _ _).alloc (Nat.le_refl _) _).alloc (by simp) _).drew, usO_at ((Below.heap_alloc _ _ _ (by simp)).trans (World.alloc_heap_new W _)), usO_at ?_⟩
  have h := World.alloc_heap_new (W.alloc (usO x)) (usO y)
  rw [show (W.alloc (usO x)).heap.size = W.heap.size + 1 from by simp] at h
  exact h
end Go.Proofs.YtbbbeldbhlehnaaGreat
