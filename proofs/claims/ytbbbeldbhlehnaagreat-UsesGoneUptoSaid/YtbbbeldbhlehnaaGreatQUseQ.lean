/- Plain: the laws of uses. -/
import Derived.Test.YtbbbeldbhlehnaaGreatMUsesTellsRow0
import Derived.Test.YtbbbeldbhlehnaaGreatMUsesTellsRow1
import Derived.Test.YtbbbeldbhlehnaaGreatMUsesTellsRow2
import Derived.Test.YtbbbeldbhlehnaaGreatMUsesTellsRow3
import Derived.Test.YtbbbeldbhlehnaaGreatMUsesTellsRow4
import Derived.Test.YtbbbeldbhlehnaaGreatMUsesTellsRow5
import Derived.Test.YtbbbeldbhlehnaaGreatMUsesTellsRow6
import Derived.Test.YtbbbeldbhlehnaaGreatMUsesTellsRow7
import Derived.Test.YtbbbeldbhlehnaaGreatMUsesTellsRow8
import Derived.Test.YtbbbeldbhlehnaaGreatMUsesTellsRow9
import Derived.Test.YtbbbeldbhlehnaaGreatMUsesTellsRow10
import Derived.Test.YtbbbeldbhlehnaaGreatMUsesTellsRow11
import Derived.Test.YtbbbeldbhlehnaaGreatMUsesTellsRow12
import Derived.Test.YtbbbeldbhlehnaaGreatMUsesTellsRow13
import Derived.Test.YtbbbeldbhlehnaaGreatMUsesTellsRow14
import Derived.Test.YtbbbeldbhlehnaaGreatMUsesTellsRow15
import Derived.Test.YtbbbeldbhlehnaaGreatMUsesTellsRow16
import Derived.Test.YtbbbeldbhlehnaaGreatMUsesTellsRow17
import Derived.Test.YtbbbeldbhlehnaaGreatMUsesTellsRow18
import Derived.Test.YtbbbeldbhlehnaaGreatMUsesTellsRow19
import Derived.Test.YtbbbeldbhlehnaaGreatMUsesTellsRow20
import Derived.Test.YtbbbeldbhlehnaaGreatMUsesTellsRow21
import Derived.Test.YtbbbeldbhlehnaaGreatMUsesTellsRow22
import Derived.Test.YtbbbeldbhlehnaaGreatMUsesTellsRow23
import Derived.Test.YtbbbeldbhlehnaaGreatMUsesTellsRow24
import Derived.Test.YtbbbeldbhlehnaaGreatMUsesTellsRow25
import Derived.Test.YtbbbeldbhlehnaaGreatMUsesTellsRow26
import Derived.Test.YtbbbeldbhlehnaaGreatMUsesTellsRow27
import Derived.Test.YtbbbeldbhlehnaaGreatMUsesTellsRow28
import Derived.Test.YtbbbeldbhlehnaaGreatMUsesTellsRow29
import Derived.Test.YtbbbeldbhlehnaaGreatMUsesTellsRow30
import Derived.Test.YtbbbeldbhlehnaaGreatMUsesTellsRow31
import Derived.Test.YtbbbeldbhlehnaaGreatMUsesTellsRow32
import Derived.Test.YtbbbeldbhlehnaaGreatMUsesTellsRow33
import Derived.Test.YtbbbeldbhlehnaaGreatMUsesTellsRow34
import Derived.Test.YtbbbeldbhlehnaaGreatMUsesTellsRow35
import Derived.Test.YtbbbeldbhlehnaaGreatMUsesTellsRow36
import Derived.Test.YtbbbeldbhlehnaaGreatMUsesTellsRow37
import Derived.Test.YtbbbeldbhlehnaaGreatMUsesTellsRow38
import Derived.Test.YtbbbeldbhlehnaaGreatMUsesTellsRow39
import Derived.Test.YtbbbeldbhlehnaaGreatQLinksPlain
set_option linter.unusedSimpArgs false
set_option linter.unusedVariables false
set_option linter.unusedVariables false
set_option linter.unusedSimpArgs false
namespace Gno
open Go
/-- what is right of uses. -/
structure RightU (d : Dt) (l : List Us) : Prop where
  data : dataE d = 0
  few : l.length ≤ 10
  mts : ∀ u ∈ l, badMt u = false
  zones : ∀ u ∈ l, noZone d u = false
  times : ∀ u ∈ l, badUse u = false
  apart : l.Pairwise (fun a b => clash a b = false)
theorem rightU_of {d : Dt} {l : List Us} (h : usesE d l = 0) : RightU d l := by
  unfold usesE at h
  have e0 : dataE d = 0 := by
    by_cases e : dataE d = 0
    · exact e
    · rw [if_pos e] at h; exact h
  rw [if_neg (by simp [e0])] at h
  by_cases e1 : 10 < l.length
  · rw [if_pos e1] at h; cases h
  rw [if_neg e1] at h
  by_cases e2 : hasP badMt l = true
  · rw [if_pos e2] at h; cases h
  rw [if_neg e2] at h
  by_cases e3 : hasP (noZone d) l = true
  · rw [if_pos e3] at h; cases h
  rw [if_neg e3] at h
  by_cases e4 : hasP badUse l = true
  · rw [if_pos e4] at h; cases h
  rw [if_neg e4] at h
  by_cases e5 : overU l = true
  · rw [if_pos e5] at h; cases h
  have key : ∀ {p : Us → Bool}, ¬ hasP p l = true → ∀ u ∈ l, p u = false := fun {p} hp u hu => by
    rw [hasP_any, List.any_eq_true] at hp
    cases hq : p u
    · rfl
    · exact absurd ⟨u, hu, hq⟩ hp
  exact ⟨e0, by omega, key e2, key e3, key e4, (overU_iff l).1 (by simpa using e5)⟩
theorem usesE_of {d : Dt} {l : List Us} (h : RightU d l) : usesE d l = 0 := by
  have key : ∀ {p : Us → Bool}, (∀ u ∈ l, p u = false) → ¬ hasP p l = true := fun {p} hp q => by
    rw [hasP_any, List.any_eq_true] at q
    obtain ⟨u, hu, hq⟩ := q
    rw [hp u hu] at hq; cases hq
  unfold usesE
  rw [if_neg (by simp [h.data]), if_neg (by have := h.few; omega), if_neg (key h.mts), if_neg (key h.zones), if_neg (key h.times), if_neg (by rw [(overU_iff l).2 h.apart]; simp)]
theorem RightU.perm {d : Dt} {l m : List Us} (h : RightU d l) (hp : l.Perm m) : RightU d m where
  data := h.data
  few := by rw [← hp.length_eq]; exact h.few
  mts := fun u hu => h.mts u (hp.mem_iff.2 hu)
  zones := fun u hu => h.zones u (hp.mem_iff.2 hu)
  times := fun u hu => h.times u (hp.mem_iff.2 hu)
  apart := (List.Perm.pairwise_iff (fun {a b} q => (clash_comm b a).trans q) hp).1 h.apart
theorem RightU.sub {d : Dt} {l m : List Us} (h : RightU d l) (hs : m.Sublist l) : RightU d m where
  data := h.data
  few := Nat.le_trans hs.length_le h.few
  mts := fun u hu => h.mts u (hs.subset hu)
  zones := fun u hu => h.zones u (hs.subset hu)
  times := fun u hu => h.times u (hs.subset hu)
  apart := h.apart.sublist hs
/-- of uses none of which are of one time and zone: the Meta is that of the one that has it. -/
theorem metaU_some {l : List Us} {zone : ByteArray} {t : Int} {u : Us} (h : l.Pairwise (fun a b => clash a b = false)) (hu : u ∈ l) (hq : isUse zone t u = true) : metaU l zone t = u.mt := by
  obtain ⟨i, hi⟩ := List.getElem?_of_mem hu
  have hil := (List.getElem?_eq_some_iff.1 hi).1
  have hfirst : ∀ j x, j < i → l[j]? = some x → isUse zone t x = false := fun j x hj hx => by
    cases hq2 : isUse zone t x
    · rfl
    · exfalso
      have hjl := (List.getElem?_eq_some_iff.1 hx).1
      have hc := List.pairwise_iff_getElem.1 h j i hjl hil hj
      rw [(List.getElem?_eq_some_iff.1 hx).2, (List.getElem?_eq_some_iff.1 hi).2] at hc
      unfold isUse at hq hq2
      rw [Bool.and_eq_true, Bool.and_eq_true, decide_eq_true_eq, decide_eq_true_eq] at hq hq2
      have h1 := (same_iff _ _).1 hq.1
      have h2 := (same_iff _ _).1 hq2.1
      have : clash x u = true := by
        unfold clash
        rw [(same_iff _ _).2 (h2.trans h1.symm), decide_eq_true (show x.fr < u.til by omega), decide_eq_true (show u.fr < x.til by omega)]; rfl
      rw [this] at hc; cases hc
  have hn : metaN l zone t = (i : Int) := by
    have := fst_at l 0 i hfirst ⟨u, hi, hq⟩
    unfold metaN
    rw [this]; omega
  unfold metaU
  rw [hn, show ((i : Int)).toNat = i from rfl, hi]
  simp only
  rw [if_neg (by omega)]
theorem metaU_none {l : List Us} {zone : ByteArray} {t : Int} (h : ∀ u ∈ l, isUse zone t u = false) : metaU l zone t = ⟨#[]⟩ := by
  have hn : metaN l zone t < 0 := by
    unfold metaN
    rcases fst_range (isUse zone t) l 0 (by omega) with e | e
    · omega
    · exfalso
      obtain ⟨u, hu, hq⟩ := (fst_nn (isUse zone t) l 0 (by omega)).1 e.1
      rw [h u hu] at hq; cases hq
  unfold metaU
  cases l[(metaN l zone t).toNat]? with
  | none => rfl
  | some u => simp only; rw [if_pos hn]
theorem metaU_two {l m : List Us} {zone : ByteArray} {t : Int} (hl : l.Pairwise (fun a b => clash a b = false)) (hm : m.Pairwise (fun a b => clash a b = false)) (h : ∀ u, isUse zone t u = true → (u ∈ l ↔ u ∈ m)) : metaU l zone t = metaU m zone t := by
  by_cases hx : ∃ u ∈ l, isUse zone t u = true
  · obtain ⟨u, hu, hq⟩ := hx
    rw [metaU_some hl hu hq, metaU_some hm ((h u hq).1 hu) hq]
  · have h1 : ∀ u ∈ l, isUse zone t u = false := fun u hu => by
      cases hq : isUse zone t u
      · rfl
      · exact absurd ⟨u, hu, hq⟩ hx
    have h2 : ∀ u ∈ m, isUse zone t u = false := fun u hu => by
      cases hq : isUse zone t u
      · rfl
      · exact absurd ⟨u, (h u hq).2 hu, hq⟩ hx
    rw [metaU_none h1, metaU_none h2]
theorem zonesS_two {d : Dt} {l m : List Us} {mt : ByteArray} {t : Int} (h : ∀ zone, metaU l zone t = metaU m zone t) : zonesS d l mt t = zonesS d m mt t := by
  unfold zonesS zonesL
  congr 2
  refine List.filter_congr fun z _ => ?_
  unfold zoneHas
  rw [h]
/-- two that are swapped. -/
def swapL {α : Type} (l : List α) (a b : Nat) (x y : α) : List α := (l.set a y).set b x
theorem swap_perm {α : Type} {l : List α} {a b : Nat} {x y : α} (ha : l[a]? = some x) (hb : l[b]? = some y) : (swapL l a b x y).Perm l := by
  obtain ⟨hal, hax⟩ := List.getElem?_eq_some_iff.1 ha
  obtain ⟨hbl, hby⟩ := List.getElem?_eq_some_iff.1 hb
  unfold swapL
  have key : ∀ (l : List α) (a b : Nat) (x y : α), a < b → l[a]? = some x → l[b]? = some y → ((l.set a y).set b x).Perm l := by
    intro l a b x y hab ha hb
    obtain ⟨hal, hax⟩ := List.getElem?_eq_some_iff.1 ha
    obtain ⟨hbl, hby⟩ := List.getElem?_eq_some_iff.1 hb
    have e1 : l = l.take a ++ x :: l.drop (a + 1) := by
      have := List.take_append_drop a l
      rw [List.drop_eq_getElem_cons hal, hax] at this; exact this.symm
    obtain ⟨p, hp⟩ : ∃ p, p = l.take a := ⟨_, rfl⟩
    obtain ⟨q, hq⟩ : ∃ q, q = l.drop (a + 1) := ⟨_, rfl⟩
    rw [← hp, ← hq] at e1
    have hpl : p.length = a := by rw [hp, List.length_take]; omega
    obtain ⟨c, hc⟩ : ∃ c, b = a + 1 + c := ⟨b - (a + 1), by omega⟩
    have hqc : q[c]? = some y := by rw [hq, List.getElem?_drop, ← hc]; exact hb
    obtain ⟨hcl, hcy⟩ := List.getElem?_eq_some_iff.1 hqc
    have e2 : q = q.take c ++ y :: q.drop (c + 1) := by
      have := List.take_append_drop c q
      rw [List.drop_eq_getElem_cons hcl, hcy] at this; exact this.symm
    obtain ⟨r, hr⟩ : ∃ r, r = q.take c := ⟨_, rfl⟩
    obtain ⟨s, hs⟩ : ∃ s, s = q.drop (c + 1) := ⟨_, rfl⟩
    rw [← hr, ← hs] at e2
    have hrl : r.length = c := by rw [hr, List.length_take]; omega
    rw [e1, e2, hc]
    have e3 : ((p ++ x :: (r ++ y :: s)).set a y).set (a + 1 + c) x = p ++ y :: (r ++ x :: s) := by
      rw [List.set_append_right _ _ (by omega), hpl, Nat.sub_self, List.set_cons_zero, List.set_append_right _ _ (by omega), hpl, show a + 1 + c - a = c + 1 by omega, List.set_cons_succ, List.set_append_right _ _ (by omega), hrl, Nat.sub_self, List.set_cons_zero]
    rw [e3]
    refine List.Perm.append_left p ?_
    have h1 : (y :: (r ++ x :: s)).Perm (y :: x :: (r ++ s)) := List.Perm.cons y List.perm_middle
    have h2 : (x :: (r ++ y :: s)).Perm (x :: y :: (r ++ s)) := List.Perm.cons x List.perm_middle
    exact h1.trans ((List.Perm.swap x y _).trans h2.symm)
  rcases Nat.lt_trichotomy a b with h | h | h
  · exact key l a b x y h ha hb
  · subst h
    rw [ha] at hb
    injection hb with hb
    subst hb
    rw [List.set_set]
    have : l.set a x = l := by rw [← hax, List.set_getElem_self]
    rw [this]
  · rw [List.set_comm _ _ (by omega)]
    exact key l b a y x h hb ha
theorem swap_size {α : Type} (l : List α) (a b : Nat) (x y : α) : (swapL l a b x y).length = l.length := by unfold swapL; simp
/-- one left out. -/
theorem gone_sub {α : Type} (l : List α) (k : Nat) : (l.take k ++ l.drop (k + 1)).Sublist l := by
  have h := List.take_append_drop k l
  conv => rhs; rw [← h]
  have e : l.drop (k + 1) = (l.drop k).drop 1 := by rw [List.drop_drop]
  rw [e]
  exact List.Sublist.append (List.Sublist.refl _) (List.drop_sublist 1 _)
theorem gone_mem {l : List Us} {k : Nat} {x : Us} {zone : ByteArray} {t : Int} (hx : l[k]? = some x) (hn : isUse zone t x = false) {u : Us} (hu : isUse zone t u = true) : u ∈ l ↔ u ∈ l.take k ++ l.drop (k + 1) := by
  constructor
  · intro h
    obtain ⟨hk, hxk⟩ := List.getElem?_eq_some_iff.1 hx
    have e := List.take_append_drop k l
    rw [List.drop_eq_getElem_cons hk, hxk] at e
    rw [← e, List.mem_append, List.mem_cons] at h
    rcases h with h | h | h
    · exact List.mem_append.2 (.inl h)
    · rw [h, hn] at hu; cases hu
    · exact List.mem_append.2 (.inr h)
  · exact fun h => (gone_sub l k).subset h
/-- the zones that are told rise. -/
theorem zones_distinct {d : Dt} (h : dataE d = 0) (l : List Us) (mt : ByteArray) (t : Int) : (zonesL d l mt t).Nodup := by
  have hr := right_of h
  have h1 : (d.zs.map (·.name)).Nodup := by
    rw [List.nodup_iff_pairwise_ne, List.pairwise_map, List.pairwise_iff_getElem]
    intro i j hi hj hij e
    have := hr.zz hij (List.getElem?_eq_getElem hi) (List.getElem?_eq_getElem hj)
    rw [e, same_refl] at this; cases this
  exact h1.sublist (List.Sublist.map _ List.filter_sublist)
theorem zonesS_rise {d : Dt} (h : dataE d = 0) (l : List Us) (mt : ByteArray) (t : Int) {i : Nat} {a b : ByteArray} (ha : (zonesS d l mt t)[i]? = some a) (hb : (zonesS d l mt t)[i + 1]? = some b) : lessB a b = true := by
  obtain ⟨hal, hax⟩ := List.getElem?_eq_some_iff.1 ha
  obtain ⟨hbl, hbx⟩ := List.getElem?_eq_some_iff.1 hb
  have h1 := List.pairwise_iff_getElem.1 (sortB_rise (zonesL d l mt t)) i (i + 1) hal hbl (by omega)
  have h2 : (zonesS d l mt t).Nodup := (sortB_perm _).nodup_iff.2 (zones_distinct h l mt t)
  have h3 := List.pairwise_iff_getElem.1 (List.nodup_iff_pairwise_ne.1 h2) i (i + 1) hal hbl (by omega)
  have hax' : (sortB (zonesL d l mt t))[i] = a := hax
  have hbx' : (sortB (zonesL d l mt t))[i + 1] = b := hbx
  rw [hax', hbx'] at h1
  rw [hax, hbx] at h3
  rcases less_tri a b with q | q | q
  · exact q
  · exact absurd q h3
  · unfold leB at h1; rw [q] at h1; cases h1
theorem zonesS_has {d : Dt} {l : List Us} {mt : ByteArray} {t : Int} {k : Nat} {z : Zn} (hz : d.zs[k]? = some z) : z.name ∈ zonesS d l mt t ↔ metaU l z.name t = mt := by
  unfold zonesS
  rw [(sortB_perm _).mem_iff]
  unfold zonesL
  rw [List.mem_map]
  constructor
  · rintro ⟨q, hq, e⟩
    have := (List.mem_filter.1 hq).2
    unfold zoneHas at this
    rw [e] at this
    exact (same_iff _ _).1 this
  · intro h
    exact ⟨z, List.mem_filter.2 ⟨List.mem_of_getElem? hz, by unfold zoneHas; exact (same_iff _ _).2 h⟩, rfl⟩
end Gno
