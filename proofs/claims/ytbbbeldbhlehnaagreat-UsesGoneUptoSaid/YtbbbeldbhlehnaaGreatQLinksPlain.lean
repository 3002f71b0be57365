/- Plain: right data: where names and links lead; one link more. -/
import Derived.Test.YtbbbeldbhlehnaaGreatMUsesTellsRow0
import Derived.Test.YtbbbeldbhlehnaaGreatMUsesTellsRow1
import Derived.Test.YtbbbeldbhlehnaaGreatMUsesTellsRow2
import Derived.Test.YtbbbeldbhlehnaaGreatMUsesTellsRow3
import Derived.Test.YtbbbeldbhlehnaaGreatMUsesTellsRow4
import Derived.Test.YtbbbeldbhlehnaaGreatMUsesTellsRow5
import Derived.Test.YtbbbeldbhlehnaaGreatMUsesTellsRow6
import Derived.Test.YtbbbeldbhlehnaaGreatMUsesTellsRow7
import Derived.Test.YtbbbeldbhlehnaaGreatMUsesTellsRow8
import Derived.Test.YtbbbeldbhlehnaaGreatMUsesTellsRow9
import Derived.Test.YtbbbeldbhlehnaaGreatMUsesTellsRow10
import Derived.Test.YtbbbeldbhlehnaaGreatMUsesTellsRow11
import Derived.Test.YtbbbeldbhlehnaaGreatMUsesTellsRow12
import Derived.Test.YtbbbeldbhlehnaaGreatMUsesTellsRow13
import Derived.Test.YtbbbeldbhlehnaaGreatMUsesTellsRow14
import Derived.Test.YtbbbeldbhlehnaaGreatMUsesTellsRow15
import Derived.Test.YtbbbeldbhlehnaaGreatMUsesTellsRow16
import Derived.Test.YtbbbeldbhlehnaaGreatMUsesTellsRow17
import Derived.Test.YtbbbeldbhlehnaaGreatMUsesTellsRow18
import Derived.Test.YtbbbeldbhlehnaaGreatMUsesTellsRow19
import Derived.Test.YtbbbeldbhlehnaaGreatMUsesTellsRow20
import Derived.Test.YtbbbeldbhlehnaaGreatMUsesTellsRow21
import Derived.Test.YtbbbeldbhlehnaaGreatMUsesTellsRow22
import Derived.Test.YtbbbeldbhlehnaaGreatMUsesTellsRow23
import Derived.Test.YtbbbeldbhlehnaaGreatMUsesTellsRow24
import Derived.Test.YtbbbeldbhlehnaaGreatMUsesTellsRow25
import Derived.Test.YtbbbeldbhlehnaaGreatMUsesTellsRow26
import Derived.Test.YtbbbeldbhlehnaaGreatMUsesTellsRow27
import Derived.Test.YtbbbeldbhlehnaaGreatMUsesTellsRow28
import Derived.Test.YtbbbeldbhlehnaaGreatMUsesTellsRow29
import Derived.Test.YtbbbeldbhlehnaaGreatMUsesTellsRow30
import Derived.Test.YtbbbeldbhlehnaaGreatMUsesTellsRow31
import Derived.Test.YtbbbeldbhlehnaaGreatMUsesTellsRow32
import Derived.Test.YtbbbeldbhlehnaaGreatMUsesTellsRow33
import Derived.Test.YtbbbeldbhlehnaaGreatMUsesTellsRow34
import Derived.Test.YtbbbeldbhlehnaaGreatMUsesTellsRow35
import Derived.Test.YtbbbeldbhlehnaaGreatMUsesTellsRow36
import Derived.Test.YtbbbeldbhlehnaaGreatMUsesTellsRow37
import Derived.Test.YtbbbeldbhlehnaaGreatMUsesTellsRow38
import Derived.Test.YtbbbeldbhlehnaaGreatMUsesTellsRow39
set_option linter.unusedSimpArgs false
set_option linter.unusedVariables false
set_option linter.unusedVariables false
set_option linter.unusedSimpArgs false
namespace Gno
open Go
/-- no two of a list are the same. -/
def Dist (l : List ByteArray) : Prop := ∀ (i j : Nat) (a b : ByteArray), i < j → l[i]? = some a → l[j]? = some b → same a b = false
theorem dist_of {l : List ByteArray} (h : dup l = false) : Dist l := fun i j a b hij ha hb => by
  cases hs : same a b
  · rfl
  · have : dup l = true := dup_yes (i := j) (m := j) (v := b) hb (Nat.le_refl _) (by
      unfold amongTo
      rw [List.any_eq_true]
      refine ⟨a, ?_, by rw [same_comm]; exact hs⟩
      exact List.mem_of_getElem? (i := i) (by rw [List.getElem?_take_of_lt hij]; exact ha))
    rw [h] at this; cases this
structure Right (d : Dt) : Prop where
  many : manyD d = false
  dist : Dist (zNames d ++ lNames d)
  noto : ∀ l ∈ d.ls, noTo d l.to = false
  lead : ∀ l ∈ d.ls, 0 ≤ leadN d l.name
theorem right_of {d : Dt} (h : dataE d = 0) : Right d := by
  have h0 : manyD d = false := by
    cases e : manyD d
    · rfl
    · unfold dataE at h; rw [if_pos e] at h; exact absurd h (by decide)
  have h1 : dE1 d = 0 := by unfold dataE at h; rwa [if_neg (by rw [h0]; simp)] at h
  have h2 : dE2 d = 0 := by
    unfold dE1 at h1; split at h1
    · exact absurd h1 (by decide)
    · exact h1
  have h3 : dE3 d = 0 := by
    unfold dE2 at h2; split at h2
    · exact absurd h2 (by decide)
    · exact h2
  have h4 : dE4 d = 0 := by
    unfold dE3 at h3; split at h3
    · exact absurd h3 (by decide)
    · exact h3
  have hd : (dup (sNames d) || dup (zNames d ++ lNames d)) = false := by
    cases e : (dup (sNames d) || dup (zNames d ++ lNames d))
    · rfl
    · unfold dE4 at h4; rw [if_pos e] at h4; exact absurd h4 (by decide)
  have h5 : dE5 d = 0 := by unfold dE4 at h4; rwa [if_neg (by rw [hd]; simp)] at h4
  have h6 : dE6 d = 0 := by
    unfold dE5 at h5; split at h5
    · rename_i q; exact absurd h5 q
    · exact h5
  have h7 : dE7 d = 0 := by
    unfold dE6 at h6; split at h6
    · exact absurd h6 (by decide)
    · exact h6
  have h8 : dE8 d = 0 := by
    unfold dE7 at h7; split at h7
    · exact absurd h7 (by decide)
    · exact h7
  have h9 : dE9 d = 0 := by
    unfold dE8 at h8; split at h8
    · exact absurd h8 (by decide)
    · exact h8
  have ht : anyI (fun _ => noTo d) (lTos d) = false := by
    cases e : anyI (fun _ => noTo d) (lTos d)
    · rfl
    · unfold dE9 at h9; rw [if_pos e] at h9; exact absurd h9 (by decide)
  have h10 : dE10 d = 0 := by unfold dE9 at h9; rwa [if_neg (by rw [ht]; simp)] at h9
  have hl : anyI (fun _ => noLead d) (lNames d) = false := by
    cases e : anyI (fun _ => noLead d) (lNames d)
    · rfl
    · unfold dE10 at h10; rw [if_pos e] at h10; exact absurd h10 (by decide)
  rw [anyI_any] at ht hl
  rw [Bool.or_eq_false_iff] at hd
  refine ⟨h0, dist_of hd.2, fun l hl' => ?_, fun l hl' => ?_⟩
  · have := List.any_eq_false.1 ht l.to (List.mem_map.2 ⟨l, hl', rfl⟩)
    simpa using this
  · have := List.any_eq_false.1 hl l.name (List.mem_map.2 ⟨l, hl', rfl⟩)
    unfold noLead at this
    simpa using this
theorem same_refl (a : ByteArray) : same a a = true := (same_iff a a).2 rfl
theorem Right.zz {d : Dt} (h : Right d) {i j : Nat} {a b : Zn} (hij : i < j) (ha : d.zs[i]? = some a) (hb : d.zs[j]? = some b) : same a.name b.name = false := by
  have hi := (List.getElem?_eq_some_iff.1 ha).1
  have hj := (List.getElem?_eq_some_iff.1 hb).1
  refine h.dist i j _ _ hij ?_ ?_
  · rw [List.getElem?_append_left (by simp [zNames]; exact hi)]; simp [zNames, ha]
  · rw [List.getElem?_append_left (by simp [zNames]; exact hj)]; simp [zNames, hb]
theorem Right.zl {d : Dt} (h : Right d) {i j : Nat} {a : Zn} {b : Lk} (ha : d.zs[i]? = some a) (hb : d.ls[j]? = some b) : same a.name b.name = false := by
  have hi := (List.getElem?_eq_some_iff.1 ha).1
  refine h.dist i (d.zs.length + j) _ _ (by omega) ?_ ?_
  · rw [List.getElem?_append_left (by simp [zNames]; exact hi)]; simp [zNames, ha]
  · rw [List.getElem?_append_right (by simp [zNames])]; simp [zNames, lNames, hb]
theorem Right.ll {d : Dt} (h : Right d) {i j : Nat} {a b : Lk} (hij : i < j) (ha : d.ls[i]? = some a) (hb : d.ls[j]? = some b) : same a.name b.name = false := by
  refine h.dist (d.zs.length + i) (d.zs.length + j) _ _ (by omega) ?_ ?_
  · rw [List.getElem?_append_right (by simp [zNames])]; simp [zNames, lNames, ha]
  · rw [List.getElem?_append_right (by simp [zNames])]; simp [zNames, lNames, hb]
theorem Right.zoneOwn {d : Dt} (h : Right d) {k : Nat} {z : Zn} (hz : d.zs[k]? = some z) : zoneN d z.name = k := by
  have := fst_at (p := isZone z.name) d.zs 0 k (fun j x hj hx => h.zz hj hx hz) ⟨z, hz, same_refl _⟩
  unfold zoneN; rw [this]; simp
theorem Right.leadZone {d : Dt} (h : Right d) {k : Nat} {z : Zn} (hz : d.zs[k]? = some z) : leadN d z.name = k := by
  unfold leadN
  rw [lead_zone (by rw [h.zoneOwn hz]; omega), h.zoneOwn hz]
theorem zone_neg {d : Dt} {s : ByteArray} (h : ∀ z ∈ d.zs, same z.name s = false) : zoneN d s < 0 := by
  have := fst_nn (isZone s) d.zs 0 (by omega)
  unfold zoneN
  rcases Int.lt_or_le (fst (isZone s) d.zs 0) 0 with q | q
  · exact q
  · obtain ⟨z, hz, hp⟩ := this.1 q
    unfold isZone at hp
    rw [h z hz] at hp; cases hp
theorem link_neg {d : Dt} {s : ByteArray} (h : ∀ z ∈ d.ls, same z.name s = false) : linkN d s < 0 := by
  have := fst_nn (isLink s) d.ls 0 (by omega)
  unfold linkN
  rcases Int.lt_or_le (fst (isLink s) d.ls 0) 0 with q | q
  · exact q
  · obtain ⟨z, hz, hp⟩ := this.1 q
    unfold isLink at hp
    rw [h z hz] at hp; cases hp
theorem Right.linkNoZone {d : Dt} (h : Right d) {i : Nat} {l : Lk} (hl : d.ls[i]? = some l) : zoneN d l.name < 0 :=
  zone_neg fun z hz => by
    obtain ⟨j, hj⟩ := List.getElem?_of_mem hz
    exact h.zl hj hl
theorem Right.linkOwn {d : Dt} (h : Right d) {i : Nat} {l : Lk} (hl : d.ls[i]? = some l) : linkN d l.name = i := by
  have := fst_at (p := isLink l.name) d.ls 0 i (fun j x hj hx => h.ll hj hx hl) ⟨l, hl, same_refl _⟩
  unfold linkN; rw [this]; simp
theorem leadT_more (d : Dt) : ∀ (f : Nat) (s : ByteArray), 0 ≤ leadT d f s → leadT d (f + 1) s = leadT d f s
  | 0, s, h => by simp [leadT] at h
  | f + 1, s, h => by
    by_cases hz : 0 ≤ zoneN d s
    · rw [lead_zone hz, lead_zone hz]
    · have hr := linkN_range d s
      by_cases hl : linkN d s < 0
      · rw [lead_none hz hl] at h; exact absurd h (by decide)
      · have hq := List.getElem?_eq_getElem (l := d.ls) (i := (linkN d s).toNat) (by omega)
        rw [lead_link hz hl hq] at h ⊢
        rw [lead_link hz hl hq]
        exact leadT_more d f _ h
theorem leadT_le (d : Dt) {f : Nat} {s : ByteArray} (h : 0 ≤ leadT d f s) : ∀ g, leadT d (f + g) s = leadT d f s
  | 0 => rfl
  | g + 1 => by
    have ih := leadT_le d h g
    rw [← Nat.add_assoc, leadT_more d (f + g) s (by rw [ih]; exact h), ih]
/-- a link leads where what it leads to leads. -/
theorem Right.leadLink {d : Dt} (h : Right d) {i : Nat} {l : Lk} (hl : d.ls[i]? = some l) : leadN d l.name = leadN d l.to ∧ 0 ≤ leadN d l.name ∧ leadN d l.name < d.zs.length := by
  have h0 := h.lead l (List.mem_of_getElem? hl)
  have e : leadN d l.name = leadT d d.ls.length l.to := by
    unfold leadN
    exact lead_link (by have := h.linkNoZone hl; omega) (by rw [h.linkOwn hl]; omega) (by rw [h.linkOwn hl]; simpa using hl)
  refine ⟨?_, h0, ?_⟩
  · rw [e] at h0 ⊢
    unfold leadN
    exact (leadT_more d _ _ h0).symm
  · exact (leadT_range d _ _).2
/-- one link more. -/
def moreD (d : Dt) (A : Option Addr) (c : Nat) (x : Lk) : Dt := { d with lA := A, ln := d.ln + 1, lc := c, ls := d.ls ++ [x] }
theorem more_zone (d : Dt) (A : Option Addr) (c : Nat) (x : Lk) (s : ByteArray) : zoneN (moreD d A c x) s = zoneN d s := rfl
theorem fst_app {α : Type} {p : α → Bool} : ∀ (l : List α) (x : α) (k : Int), 0 ≤ k → fst p (l ++ [x]) k = if 0 ≤ fst p l k then fst p l k else if p x = true then k + l.length else -1
  | [], x, k, hk => by
    simp only [List.nil_append, fst]
    by_cases h : p x = true
    · simp [h]
    · simp [h]
  | a :: t, x, k, hk => by
    show fst p (a :: (t ++ [x])) k = _
    by_cases h : p a = true
    · have e1 : ∀ l, fst p (a :: l) k = k := fun l => by show (if p a = true then k else fst p l (k + 1)) = k; rw [if_pos h]
      rw [e1, e1, if_pos hk]
    · have e1 : ∀ l, fst p (a :: l) k = fst p l (k + 1) := fun l => by show (if p a = true then k else fst p l (k + 1)) = _; rw [if_neg h]
      rw [e1, e1, fst_app t x (k + 1) (by omega)]
      have e : k + 1 + (t.length : Int) = k + ((a :: t).length : Int) := by simp; omega
      rw [e]
theorem more_link (d : Dt) (A : Option Addr) (c : Nat) (x : Lk) (s : ByteArray) : linkN (moreD d A c x) s = if 0 ≤ linkN d s then linkN d s else if same x.name s = true then (d.ls.length : Int) else -1 := by
  unfold linkN
  show fst (isLink s) (d.ls ++ [x]) 0 = _
  rw [fst_app d.ls x 0 (by omega)]
  unfold isLink
  simp
/-- what leads to a zone leads there with one link more. -/
theorem more_lead (d : Dt) (A : Option Addr) (c : Nat) (x : Lk) : ∀ (f : Nat) (s : ByteArray), 0 ≤ leadT d f s → leadT (moreD d A c x) f s = leadT d f s
  | 0, s, h => by simp [leadT] at h
  | f + 1, s, h => by
    by_cases hz : 0 ≤ zoneN d s
    · rw [lead_zone hz, lead_zone (d := moreD d A c x) (by rw [more_zone]; exact hz), more_zone]
    · have hr := linkN_range d s
      by_cases hl : linkN d s < 0
      · rw [lead_none hz hl] at h; exact absurd h (by decide)
      · have hm : linkN (moreD d A c x) s = linkN d s := by rw [more_link, if_pos (by omega)]
        have hq := List.getElem?_eq_getElem (l := d.ls) (i := (linkN d s).toNat) (by omega)
        rw [lead_link hz hl hq] at h ⊢
        rw [lead_link (d := moreD d A c x) (l := d.ls[(linkN d s).toNat]'(by omega)) (by rw [more_zone]; exact hz) (by rw [hm]; exact hl) (by rw [hm]; show (d.ls ++ [x])[(linkN d s).toNat]? = _; rw [List.getElem?_append_left (by omega)]; exact hq)]
        exact more_lead d A c x f _ h
theorem more_leadN {d : Dt} {A : Option Addr} {c : Nat} {x : Lk} {s : ByteArray} (h : 0 ≤ leadN d s) : leadN (moreD d A c x) s = leadN d s := by
  unfold leadN at h ⊢
  have e : (moreD d A c x).ls.length + 1 = d.ls.length + 1 + 1 := by show (d.ls ++ [x]).length + 1 = _; simp
  rw [e, ← more_lead d A c x _ _ h]
  rw [← more_lead d A c x _ _ h] at h
  exact leadT_more _ _ _ h
/-- a name that no zone, no link has. -/
theorem lead_absent {d : Dt} {s : ByteArray} (hz : zoneN d s < 0) (hl : linkN d s < 0) : leadN d s = -1 := lead_none (by omega) hl
/-- one link more changes nothing of the others. -/
theorem more_same {d : Dt} {A : Option Addr} {c : Nat} {x : Lk} (h : Right d) {s : ByteArray} (hs : same x.name s = false) : leadN (moreD d A c x) s = leadN d s := by
  by_cases hz : 0 ≤ zoneN d s
  · exact more_leadN (by unfold leadN; rw [lead_zone hz]; exact hz)
  · by_cases hl : 0 ≤ linkN d s
    · have hr := linkN_range d s
      obtain ⟨l, hlm, hp⟩ := (fst_nn (isLink s) d.ls 0 (by omega)).1 hl
      have : l.name = s := (same_iff _ _).1 hp
      refine more_leadN ?_
      rw [← this]
      exact h.lead l hlm
    · have a1 : zoneN d s < 0 := by omega
      have a2 : linkN d s < 0 := by omega
      have a3 : linkN (moreD d A c x) s < 0 := by rw [more_link, if_neg hl, if_neg (by rw [hs]; simp)]; omega
      rw [lead_absent a1 a2, lead_absent (d := moreD d A c x) a1 a3]
/-- and leads where it says. -/
theorem more_new {d : Dt} {A : Option Addr} {c : Nat} {x : Lk} (h : Right d) (h2 : Right (moreD d A c x)) : leadN (moreD d A c x) x.name = leadN d x.to ∧ 0 ≤ leadN d x.to := by
  have hx : (moreD d A c x).ls[d.ls.length]? = some x := by show (d.ls ++ [x])[d.ls.length]? = _; simp
  obtain ⟨h3, h4, h5⟩ := h2.leadLink hx
  have h6 : 0 ≤ leadN d x.to := by
    by_cases hz : 0 ≤ zoneN d x.to
    · unfold leadN; rw [lead_zone hz]; exact hz
    · by_cases hl : 0 ≤ linkN d x.to
      · obtain ⟨l, hlm, hp⟩ := (fst_nn (isLink x.to) d.ls 0 (by omega)).1 hl
        have : l.name = x.to := (same_iff _ _).1 hp
        rw [← this]
        exact h.lead l hlm
      · exfalso
        have hz2 : ¬ 0 ≤ zoneN (moreD d A c x) x.to := by rw [more_zone]; exact hz
        by_cases hs : same x.name x.to = true
        · -- it leads to itself
          have hnt : x.name = x.to := (same_iff _ _).1 hs
          have key : ∀ f, leadT (moreD d A c x) f x.to = -1 := by
            intro f
            induction f with
            | zero => rfl
            | succ f ih =>
              have hm : linkN (moreD d A c x) x.to = d.ls.length := by rw [more_link, if_neg hl, if_pos hs]
              rw [lead_link (l := x) hz2 (by rw [hm]; omega) (by rw [hm]; simpa using hx)]
              exact ih
          rw [h3] at h4
          unfold leadN at h4
          rw [key] at h4
          exact absurd h4 (by decide)
        · have : leadN (moreD d A c x) x.to = -1 := lead_absent (by omega) (by rw [more_link, if_neg hl, if_neg hs]; omega)
          rw [h3, this] at h4
          exact absurd h4 (by decide)
  exact ⟨by rw [h3, more_leadN h6], h6⟩
end Gno
